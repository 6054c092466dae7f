/- A group that is over or open, pages that are none and records that may not be are refused, and a record that was done is read back; the conditions are those of the given statement, for arguments that a machine can hold. Part 20 of 44. -/
import Derived.Test.YtconhghphklfjaaGreatE19
namespace Go.Proofs.YtconhghphklfjaaGreat.Am
open Go
section
variable {P : Program} {h h' : H} {S : List Assn} {v w x : V} {cs ds : List V} {k : Nat}
theorem ldN {t : TypeId} {id off n q : Nat} {st : Bool} (ht : isAggT P t = some true) (hs : sizeT P t = some q) (hg : T.get h.tr id = some (.cells n cs st)) (hl : cs.length = n) (hb : off + q ≤ n) :
  loadV P h t (.ptr id off) = some (.agg ((cs.drop off).take q)) := by
 simp only [loadV, ht, hs, rdN, hg]
 rw [ble_iff.2 hb, cond_true]
 cases hc : (Nat.beq off 0 && Nat.beq q n) with
 | true =>
  simp only [Bool.and_eq_true, beq_iff] at hc
  obtain ⟨rfl, rfl⟩ := hc
  simp [← hl]
 | false => rfl
theorem Sat.arrSt {j : Nat} (s : Sat h S) (hj : getA S j = some (.arr k v cs)) : cs.all storable = true := by
 obtain ⟨m, r, h1, h2, h3⟩ := s.at hj
 exact h3.1
theorem Sat.arrV {j : Nat} (s : Sat h S) (hj : getA S j = some (.arr k v cs)) : v.cells = [v] ∧ storable v = true ∧ v.beq v = true := by
 obtain ⟨m, r, h1, h2, h3⟩ := s.at hj
 rcases h3.2 with ⟨rfl, _⟩ | ⟨id, n, cap, N, rest, rfl, _⟩
 ·exact ⟨rfl, rfl, rfl⟩
 ·exact ⟨rfl, rfl, beqSl _ _ _ _⟩
theorem Sat.arrLen {j n : Nat} {t e : TypeId} (s : Sat h S) (hj : getA S j = some (.arr k v cs)) (hn : cs.length = n * k) (hk : 1 ≤ k) (hu : P.underlying t = some (.slice e)) : lenV P h t v = some (.int .i64 n) := by
 obtain ⟨m, r, h1, h2, h3⟩ := s.at hj
 rcases h3.2 with ⟨rfl, rfl⟩ | ⟨id, n', cap, N, rest, rfl, _, q, _⟩
 ·have : n = 0 := by
   rcases Nat.eq_zero_or_pos n with h0 | h0
   ·exact h0
   ·have := Nat.mul_le_mul h0 hk
    simp at hn
    omega
  subst this
  simp only [lenV, hu]
  rfl
 ·have : n' = n := Nat.eq_of_mul_eq_mul_right hk (by omega)
  subst this
  simp only [lenV, hu]
theorem repeatL_len (z : List V) (n : Nat) : (repeatL z n).length = n * z.length := by
 induction n with
 | zero => simp [repeatL]
 | succ n ih => simp only [repeatL, List.length_append, ih, Nat.succ_mul]; omega
theorem repeatL_st {z : List V} (hz : z.all storable = true) (n : Nat) : (repeatL z n).all storable = true := by
 induction n with
 | zero => rfl
 | succ n ih => simp only [repeatL, List.all_append, hz, ih, Bool.and_self]
theorem sat_mkArr (s : Sat h S) {t e : TypeId} {i : TypeInfo} {z : V} {n c : Nat} (hu : P.underlying t = some (.slice e)) (hi : P.info? e = some i) (hz : zeroT P e = some z) (hk : i.size = k) (hb : i.bytes ≤ 4096) (hl : z.cells.length = k) (hst : z.cells.all storable = true)
  (h1 : 1 ≤ k) (hn : n ≤ c) (hc : c < 1073741824) :
  ∃ v h', makeSliceV P h t (.int .i64 (n : Int)) (.int .i64 (c : Int)) = some (v, h') ∧ Sat h' (.arr k v (repeatL z.cells n) :: S) := by
 refine ⟨.sl h.next 0 n (.exact c), h.new (.cells (c * k) (repeatL z.cells c) false), ?_, (s.new _).ent fun m r hm => ?_⟩
 ·simp only [makeSliceV, hu, hi, hz, Int.toNat_natCast, hk, hl]
  rw [show (decide ((0 : Int) ≤ (n : Int)) && decide ((n : Int) ≤ (c : Int)) && decide ((c : Int) < 1073741824) && Nat.ble i.bytes 4096 && Nat.beq k k && Nat.ble 1 k) = true by
   rw [ble_iff.2 hb, ble_iff.2 h1, Nat.beq_refl]; simp; omega, cond_true]
 ·refine ⟨repeatL_st hst n, .inr ⟨h.next, n, .exact c, c * k, repeatL z.cells (c - n), rfl, ?_, by rw [repeatL_len, hl], ?_, repeatL_st hst _, rfl, hn⟩⟩
  ·have : repeatL z.cells n ++ repeatL z.cells (c - n) = repeatL z.cells c := by
    clear hm
    have : ∀ a b, repeatL z.cells a ++ repeatL z.cells b = repeatL z.cells (a + b) := fun a b => by
     induction a with
     | zero => simp [repeatL]
     | succ a ih => rw [Nat.succ_add]; simp only [repeatL, List.append_assoc, ih]
    rw [this, show n + (c - n) = c by omega]
   rw [this]; exact hm
  ·rw [repeatL_len, repeatL_len, hl, ← Nat.add_mul, show n + (c - n) = c by omega]
theorem wrN_put {id off n : Nat} {vs : List V} (hg : T.get h.tr id = some (.cells n cs false)) (hl : cs.length = n) (hb : off + vs.length ≤ n) :
  wrN h id off vs = some (h.put id (some (.cells n (cs.take off ++ (vs ++ cs.drop (off + vs.length))) false))) := by
 simp only [wrN, hg]
 rw [ble_iff.2 hb, cond_true]
 congr 3
 cases hc : (Nat.beq off 0 && Nat.beq vs.length n) with
 | true =>
  simp only [Bool.and_eq_true, beq_iff] at hc
  obtain ⟨rfl, hn⟩ := hc
  rw [cond_true]
  have : cs.drop (0 + vs.length) = [] := List.drop_eq_nil_of_le (by omega)
  rw [this]; simp
 | false => rw [cond_false]
theorem rdN_of {id off n q : Nat} {st : Bool} (hg : T.get h.tr id = some (.cells n cs st)) (hl : cs.length = n) (hb : off + q ≤ n) : rdN h id off q = some ((cs.drop off).take q) := by
 simp only [rdN, hg]
 rw [ble_iff.2 hb, cond_true]
 cases hc : (Nat.beq off 0 && Nat.beq q n) with
 | true =>
  simp only [Bool.and_eq_true, beq_iff] at hc
  obtain ⟨rfl, rfl⟩ := hc
  simp [← hl]
 | false => rfl
theorem sat_appArr (s : Sat h (.arr k v cs :: .arr k w ds :: S)) {t e : TypeId} {i : TypeInfo} {z : V} (hu : P.underlying t = some (.slice e)) (hi : P.info? e = some i) (hz : zeroT P e = some z) (hk : i.size = k) (hb : i.bytes ≤ 4096) (hl : z.cells.length = k)
  (h1 : 1 ≤ k) (hsz : cs.length + ds.length ≤ 1073741824) :
  ∃ v' h', appendV P h #[t, t] v w = some (v', h') ∧ Sat h' (.arr k v' (cs ++ ds) :: .arr k w ds :: S) := by
 have hst1 := s.arrSt (j := 0) rfl
 have hst2 := s.arrSt (j := 1) rfl
 have hall : (cs ++ ds).all storable = true := by rw [List.all_append, hst1, hst2]; rfl
 -- what is appended
 have hsrc : ∃ m, srcV h k w = some (ds, m) ∧ ds.length = m * k := by
  obtain ⟨m, r, q1, q2, q3⟩ := s.at (k := 1) rfl
  rcases q3.2 with ⟨rfl, rfl⟩ | ⟨id, n, cap, N, rest, rfl, hg, e1, e2, e3, e4⟩
  ·exact ⟨0, rfl, by simp⟩
  ·refine ⟨n, ?_, e1⟩
   simp only [srcV]
   rw [rdN_of (q1 _ _ hg) (by simp [e2]) (by omega)]
   rw [List.drop_zero, ← e1, List.take_left' rfl]
   rfl
 obtain ⟨m, hsrc, hm⟩ := hsrc
 have hgrow : ∀ n : Nat, n * k = cs.length → growOk (n + m) i.bytes = true := fun n hn => by
  have e1 : (n + m) * k = cs.length + ds.length := by rw [Nat.add_mul, hn, hm]
  have e2 : n + m ≤ (n + m) * k := Nat.le_mul_of_pos_right _ h1
  have e3 : (n + m) * i.bytes ≤ (n + m) * 4096 := Nat.mul_le_mul_left _ hb
  exact growOk_iff.2 ⟨by omega, by omega⟩
 have hnew : ∀ (σ : H) (n : Nat) (T : List Assn), Sat σ T → n * k = cs.length → 1 ≤ m → Sat (growV σ k cs ds (n + m)).2 (.arr k (growV σ k cs ds (n + m)).1 (cs ++ ds) :: T) := by
  intro σ n T sT hn hm1
  refine (sT.new (.cells ((n + m) * k) (cs ++ ds) false)).ent fun a r hm' => ⟨hall, .inr ⟨σ.next, n + m, .rest k 0, (n + m) * k, [], rfl, by rw [List.append_nil]; exact hm', by rw [List.length_append, Nat.add_mul]; omega, by rw [List.length_append, Nat.add_mul]; simp; omega, rfl, rfl, rfl, rfl, by omega⟩⟩
 unfold appendV
 simp only [hu, hi, hz, hk, hl, hsrc]
 rw [show (Nat.ble 1 k && Nat.ble i.bytes 4096 && Nat.beq k k) = true by rw [ble_iff.2 h1, ble_iff.2 hb, Nat.beq_refl]; rfl, cond_true]
 cases hm0 : Nat.beq m 0 with
 | true =>
  have : m = 0 := beq_iff.1 hm0
  subst this
  have hd0 : ds = [] := List.eq_nil_of_length_eq_zero (by simpa using hm)
  subst hd0
  rw [cond_true, List.append_nil]
  obtain ⟨m, r, q1, q2, q3⟩ := s.at (k := 0) rfl
  rcases q3.2 with ⟨rfl, rfl⟩ | ⟨id, n, cap, N, rest, rfl, hg, e1, e2, e3, e4⟩
  ·exact ⟨_, _, rfl, s⟩
  ·exact ⟨_, _, rfl, s⟩
 | false =>
  have hm1 : 1 ≤ m := by
   rcases Nat.eq_zero_or_pos m with h0 | h0
   ·rw [beqT h0] at hm0; cases hm0
   ·exact h0
  rw [cond_false]
  obtain ⟨a, r, q1, q2, q3⟩ := s.at (k := 0) rfl
  rcases q3.2 with ⟨rfl, rfl⟩ | ⟨id, n, cap, N, rest, rfl, hg, e1, e2, e3, e4⟩
  ·have hg := hgrow 0 (by simp)
   rw [Nat.zero_add] at hg
   simp only [hg, cond_true]
   have := hnew h 0 (.arr k .sl0 [] :: .arr k w ds :: S) s (by simp) hm1
   rw [Nat.zero_add] at this
   refine ⟨_, _, rfl, ?_⟩
   exact (this.bring [1]).drop
  ·cases cap with
   | exact c =>
    obtain ⟨e4, e5⟩ := e4
    simp only [Nat.zero_add]
    have hcs : (cs ++ rest).take cs.length = cs := List.take_left' rfl
    cases hq : Nat.ble (n + m) c with
    | true =>
     have hq' := ble_iff.1 hq
     rw [cond_true]
     have hfit : n * k + ds.length ≤ N := by rw [hm, ← Nat.add_mul, e4]; exact Nat.mul_le_mul_right _ hq'
     rw [wrN_put (q1 _ _ hg) (by simp [e2]) hfit]
     simp only
     obtain ⟨m', r', p1, p2, p3, x1, x2, x3, x4, x5, ⟨_, x6⟩, x7⟩ := s.ok
     have hrow : x1 id = some (.cells N (cs ++ rest) false) := by
      rcases x6 with ⟨x6, _⟩ | ⟨id', n', cap', N', rest', x6, x8, x9, x10, _⟩
      ·cases x6
      ·injection x6 with y1 y2 y3 y4
       subst y1
       rw [x8]
       have := p1 _ _ (x4 _ _ x8)
       rw [q1 _ _ hg] at this
       injection this with this
       rw [this]
     have s0 : Sat h (pt id (.cells N (cs ++ rest) false) :: .arr k w ds :: S) := ⟨s.wf, m', r', p1, p2, p3, x1, x2, x3, x4, x5, hrow, x7⟩
     have s1 := s0.put (k := 0) (o' := .cells N ((cs ++ rest).take (n * k) ++ (ds ++ (cs ++ rest).drop (n * k + ds.length))) false) rfl
     refine ⟨_, _, rfl, Sat.ent s1 fun a' r'' ha => ⟨hall, .inr ⟨id, n + m, .exact c, N, rest.drop ds.length, rfl, ?_, by rw [List.length_append, Nat.add_mul]; omega, by simp; omega, ?_, e4, hq'⟩⟩⟩
     ·have ha' : a' id = some (.cells N ((cs ++ rest).take (n * k) ++ (ds ++ (cs ++ rest).drop (n * k + ds.length))) false) := ha
      rw [ha', ← e1, hcs, List.drop_append, List.drop_eq_nil_of_le (by omega), Nat.add_sub_cancel_left, List.nil_append, List.append_assoc]
     ·rw [List.all_eq_true] at e3 ⊢
      exact fun y hy => e3 y (List.mem_of_mem_drop hy)
    | false =>
     rw [cond_false, hgrow n e1.symm, cond_true, rdN_of (q1 _ _ hg) (by simp [e2]) (by omega)]
     simp only
     rw [List.drop_zero, ← e1, hcs]
     have := hnew h n _ s e1.symm hm1
     exact ⟨_, _, rfl, (this.bring [1]).drop⟩
   | rest e' alt =>
    obtain ⟨ek, rfl, rfl, e7⟩ := e4
    have ek := ek.symm
    subst ek
    simp only [Nat.beq_refl, cond_true, List.append_nil, Nat.zero_add] at hg e2 ⊢
    have hext : extent h id 0 k = n := by
     simp only [extent, q1 _ _ hg]
     rw [Nat.sub_zero, ← e2]
     simp only [List.length_nil, Nat.add_zero, e1]
     exact Nat.mul_div_cancel _ h1
    rw [hext]
    rw [show Nat.ble (n + m) n = false by
     cases hq : Nat.ble (n + m) n with
     | true => have := ble_iff.1 hq; omega
     | false => rfl, cond_false, hgrow n e1.symm, show Nat.ble 2 ((n + m) * k) = true from ble_iff.2 (by
      have : 2 * 1 ≤ (n + m) * k := Nat.mul_le_mul (by omega) h1
      omega), Bool.and_self, cond_true, rdN_of (q1 _ _ hg) (by simpa using e2) (by simp at e2; omega), q1 _ _ hg]
    simp only
    obtain ⟨m', r', p1, p2, p3, x1, x2, x3, x4, x5, ⟨_, x6⟩, x7⟩ := s.ok
    have hrow : x1 id = some (.cells N cs false) := by
     rcases x6 with ⟨x6, _⟩ | ⟨id', n', cap', N', rest', x6, x8, x9, x10, _⟩
     ·cases x6
     ·injection x6 with y1 y2 y3 y4
      subst y1
      rw [x8]
      have := p1 _ _ (x4 _ _ x8)
      rw [q1 _ _ hg] at this
      injection this with this
      rw [this]
    have s0 : Sat h (pt id (.cells N cs false) :: .arr k w ds :: S) := ⟨s.wf, m', r', p1, p2, p3, x1, x2, x3, x4, x5, hrow, x7⟩
    have := hnew (h.put id none) n _ s0.kill e1.symm hm1
    rw [List.drop_zero, List.take_of_length_le (by omega)]
    exact ⟨_, _, rfl, this⟩
end
section
variable {P : Program} {h h' : H} {S : List Assn} {v w x : V} {cs ds : List V} {k : Nat}
theorem Sat.stA {t : TypeId} {j id n : Nat} {l : List V} (s : Sat h S) (hk : getA S j = some (pt id (.cells n cs false))) (hs : sizeT P t = some n) (hl : l.length = n) (hst : l.all storable = true) :
  ∃ h₁, storeV P h t (.ptr id 0) (.agg l) = some h₁ ∧ Sat h₁ (setA S j (pt id (.cells n l false))) := by
 refine ⟨h.put id (some (.cells n l false)), ?_, s.put hk⟩
 simp only [storeV, hs, V.cells, hst, hl, Nat.beq_refl, Bool.and_self, cond_true, wrN, s.row hk]
 rw [ble_iff.2 (by omega : 0 + n ≤ n), cond_true]
theorem sat_bs1 (s : Sat h S) {t e : TypeId} {z : V} (hu : P.underlying t = some (.slice e)) (hz : zeroT P e = some z) (hk : sizeT P e = some k) (hl : z.cells.length = k) (h1 : 1 ≤ k) (h2 : k ≤ 65536) (hx : x.cells.length = k) (hst : x.cells.all storable = true) :
  ∃ v h', buildSliceV P h t 1 [(0, x)] = some (v, h') ∧ Sat h' (.arr k v x.cells :: S) := by
 refine ⟨.sl h.next 0 1 (.exact 1), newRow h x.cells, ?_, ?_⟩
 ·simp only [buildSliceV, hu, hk, hz]
  rw [show (Nat.beq z.cells.length k && Nat.ble (1 * k) 65536 && Nat.ble 1 k) = true by rw [hl, Nat.beq_refl, ble_iff.2 (by omega), ble_iff.2 h1]; rfl, cond_true]
  have e1 : repeatL z.cells 1 = z.cells := by simp [repeatL]
  simp only [fillV, e1, hx, hl, Nat.beq_refl, Bool.true_and]
  rw [ble_iff.2 (by omega : 0 * k + k ≤ k), cond_true]
  have e2 : z.cells.take (0 * k) ++ (x.cells ++ z.cells.drop (0 * k + k)) = x.cells := by
   rw [Nat.zero_mul, List.take_zero, List.nil_append, List.drop_eq_nil_of_le (by omega), List.append_nil]
  simp only [e2, hst, cond_true]
 ·refine (s.new _).ent fun m r hm => ⟨hst, .inr ⟨h.next, 1, .exact 1, k, [], rfl, ?_, by omega, by simp; omega, rfl, by omega, Nat.le_refl _⟩⟩
  have hm : m h.next = some (.cells x.cells.length x.cells false) := hm
  rw [hm, hx, List.append_nil]
end
section
variable {P : Program} {h h' : H} {S : List Assn} {X : Assn} {v w x : V} {l : List Nat} {k : Nat}
theorem ViewM.slice {m : PM} {a b : Nat} (hv : ViewM m v l) (hab : a ≤ b) (hb : b ≤ l.length) : ViewM m (slR v a b) ((l.take b).drop a) := by
 have hlt : ∀ x ∈ (l.take b).drop a, x < 256 := fun x hx => hv.1 x (List.mem_of_mem_take (List.mem_of_mem_drop hx))
 have hlen : ((l.take b).drop a).length = b - a := by simp; omega
 obtain ⟨hl, hv'⟩ := hv
 rcases hv' with ⟨rfl | ⟨ea, rfl⟩, rfl⟩ | ⟨id, off, cap, n, cs, st, rfl, hg, h1, h2, h3, h4⟩
 ·simp at hb
  have : b = 0 := by omega
  have : a = 0 := by omega
  subst_vars
  exact ⟨by simp, .inl ⟨.inl rfl, by simp⟩⟩
 ·simp at hb
  have : b = 0 := by omega
  have : a = 0 := by omega
  subst_vars
  exact ⟨by simp, .inl ⟨.inr ⟨ea, rfl⟩, by simp⟩⟩
 ·have hread : ∀ o, o = off + a ∨ b - a = 0 → (cs.drop o).take (b - a) = ofBytes ((l.take b).drop a) := by
   intro o ho
   rcases ho with rfl | h0
   ·have e := congrArg (fun q => (q.take b).drop a) h3
    simp only [ofBytes, ← List.map_take, ← List.map_drop] at e ⊢
    rw [← e, List.take_take, Nat.min_eq_left hb, List.drop_take, List.drop_drop]
   ·rw [h0, List.take_zero]
    have : ((l.take b).drop a) = [] := List.eq_nil_of_length_eq_zero (by omega)
    rw [this]; rfl
  cases cap with
  | exact c =>
   have hc : l.length ≤ c := h4
   refine ⟨hlt, .inr ⟨id, _, _, n, cs, st, by rw [hlen]; rfl, hg, h1, ?_, ?_, ?_⟩⟩
   ·rw [hlen]
    by_cases hca : c = a
    ·rw [beqT hca, cond_true]; omega
    ·rw [beqF hca, cond_false]; omega
   ·rw [hlen]
    by_cases hca : c = a
    ·rw [beqT hca, cond_true]; exact hread _ (.inr (by omega))
    ·rw [beqF hca, cond_false, Nat.mul_one]; exact hread _ (.inl rfl)
   ·show ((l.take b).drop a).length ≤ c - a
    rw [hlen]; omega
  | rest e alt =>
   have he : e = 1 := h4
   subst he
   exact ⟨hlt, .inr ⟨id, _, _, n, cs, st, by rw [hlen]; rfl, hg, h1, by rw [hlen]; omega, by rw [hlen, Nat.mul_one]; exact hread _ (.inl rfl), rfl⟩⟩
theorem rd_slice {a b : Nat} (hX : Ent X (rdB v l)) (hab : a ≤ b) (hb : b ≤ l.length) : Ent X (rdB (slR v a b) ((l.take b).drop a)) := fun m r hm =>
 (hX m r hm).imp (fun h => ViewM.slice h hab hb) (fun h => ViewM.slice h hab hb)
theorem rd_from {a : Nat} (hX : Ent X (rdB v l)) (ha : a ≤ l.length) : Ent X (rdB (slR v a l.length) (l.drop a)) := by
 have := rd_slice hX ha (Nat.le_refl _)
 rwa [List.take_length] at this
theorem rd_to {b : Nat} (hX : Ent X (rdB v l)) (hb : b ≤ l.length) : Ent X (rdB (slR v 0 b) (l.take b)) := by
 have := rd_slice hX (Nat.zero_le b) hb
 rwa [List.drop_zero] at this
theorem Sat.nilArr (s : Sat h S) : Sat h (.arr k .sl0 [] :: S) := (s.addPu trivial).ent fun _ _ _ => ⟨rfl, .inl ⟨rfl, rfl⟩⟩
theorem Sat.nilBuf (s : Sat h S) : Sat h (bufA .sl0 [] :: S) := (s.addPu trivial).ent fun _ _ _ => ⟨by simp, .inl ⟨rfl, rfl⟩⟩
theorem Sat.nilRo (s : Sat h S) : Sat h (roB .sl0 [] :: S) := (s.addPu trivial).ent fun _ _ _ => ⟨by simp, .inl ⟨.inl rfl, rfl⟩⟩
theorem sat_mkRow (s : Sat h S) {t e : TypeId} {i : TypeInfo} {z : V} {n : Nat} (hu : P.underlying t = some (.slice e)) (hi : P.info? e = some i) (hz : zeroT P e = some z) (hk : i.size = k) (hb : i.bytes ≤ 4096) (hl : z.cells.length = k)
  (h1 : 1 ≤ k) (hn : n < 1073741824) :
  ∃ id h', makeSliceV P h t (.int .i64 (n : Int)) (.int .i64 (n : Int)) = some (.sl id 0 n (.exact n), h') ∧ Sat h' (pt id (.cells (n * k) (repeatL z.cells n) false) :: S) := by
 refine ⟨h.next, h.new (.cells (n * k) (repeatL z.cells n) false), ?_, s.new _⟩
 simp only [makeSliceV, hu, hi, hz, Int.toNat_natCast, hk, hl]
 rw [show (decide ((0 : Int) ≤ (n : Int)) && decide ((n : Int) ≤ (n : Int)) && decide ((n : Int) < 1073741824) && Nat.ble i.bytes 4096 && Nat.beq k k && Nat.ble 1 k) = true by
  rw [ble_iff.2 hb, ble_iff.2 h1, Nat.beq_refl]; simp; omega, cond_true]
theorem len_slE {h : H} {t e : TypeId} {i o n : Nat} {c : Cap} {v : V} (hv : v = .sl i o n c) (hu : P.underlying t = some (.slice e)) : lenV P h t v = some (.int .i64 n) := by subst hv; exact len_sl hu
end
def slR3 (v : V) (a b m : Nat) : V := match v with
 | .sl id off _ _ => .sl id (cond (Nat.beq m a) off (off + a * 1)) (b - a) (.exact (m - a))
 | v => v
section
variable {P : Program} {h h' : H} {S : List Assn} {X : Assn} {v w x : V} {l : List Nat} {k : Nat}
theorem ViewM.slice3 {m : PM} {a b c : Nat} (hv : ViewM m v l) (hab : a ≤ b) (hb : b ≤ c) (hc : c ≤ l.length) (hl : 1 ≤ l.length) : ViewM m (slR3 v a b c) ((l.take b).drop a) := by
 have hlt : ∀ x ∈ (l.take b).drop a, x < 256 := fun x hx => hv.1 x (List.mem_of_mem_take (List.mem_of_mem_drop hx))
 have hlen : ((l.take b).drop a).length = b - a := by simp; omega
 obtain ⟨_, hv'⟩ := hv
 rcases hv' with ⟨_, rfl⟩ | ⟨id, off, cap, n, cs, st, rfl, hg, h1, h2, h3, h4⟩
 ·simp at hl
 ·have hread : ∀ o, o = off + a ∨ b - a = 0 → (cs.drop o).take (b - a) = ofBytes ((l.take b).drop a) := by
   intro o ho
   rcases ho with rfl | h0
   ·have e := congrArg (fun q => (q.take b).drop a) h3
    simp only [ofBytes, ← List.map_take, ← List.map_drop] at e ⊢
    rw [← e, List.take_take, Nat.min_eq_left (Nat.le_trans hb hc), List.drop_take, List.drop_drop]
   ·rw [h0, List.take_zero]
    have : ((l.take b).drop a) = [] := List.eq_nil_of_length_eq_zero (by omega)
    rw [this]; rfl
  refine ⟨hlt, .inr ⟨id, _, _, n, cs, st, by rw [hlen]; rfl, hg, h1, ?_, ?_, ?_⟩⟩
  ·rw [hlen]
   by_cases hca : c = a
   ·rw [beqT hca, cond_true]; omega
   ·rw [beqF hca, cond_false]; omega
  ·rw [hlen]
   by_cases hca : c = a
   ·rw [beqT hca, cond_true]; exact hread _ (.inr (by omega))
   ·rw [beqF hca, cond_false, Nat.mul_one]; exact hread _ (.inl rfl)
  ·show ((l.take b).drop a).length ≤ c - a
   rw [hlen]; omega
theorem rd_slice3 {a b c : Nat} (hX : Ent X (rdB v l)) (hab : a ≤ b) (hb : b ≤ c) (hc : c ≤ l.length) (hl : 1 ≤ l.length) : Ent X (rdB (slR3 v a b c) ((l.take b).drop a)) := fun m r hm =>
 (hX m r hm).imp (fun h => ViewM.slice3 h hab hb hc hl) (fun h => ViewM.slice3 h hab hb hc hl)
theorem slice3_view {a b c : Nat} (hv : View h v l) (hab : a ≤ b) (hb : b ≤ c) (hc : c ≤ l.length) (hl : 1 ≤ l.length) : sliceV Tryz.prog h 32 v (some a) (some b) (some c) = some (slR3 v a b c) := by
 obtain ⟨_, hv'⟩ := hv
 rcases hv' with ⟨_, rfl⟩ | ⟨id, off, cap, n, cs, st, rfl, hg, h1, h2, h3, h4⟩
 ·simp at hl
 ·cases cap with
  | exact q =>
   have hq : l.length ≤ q := h4
   simp only [sliceV, slR3, Tryz.underlying32, sizeT_u8, Option.getD_some]
   rw [show (Nat.ble a b && Nat.ble b c && Nat.ble c q) = true by rw [Bool.and_eq_true, Bool.and_eq_true, ble_iff, ble_iff, ble_iff]; omega, cond_true]
  | rest e alt =>
   have he : e = 1 := h4
   subst he
   simp only [sliceV, slR3, Tryz.underlying32, sizeT_u8, Option.getD_some, Nat.beq_refl]
   rw [show (true && Nat.ble 1 1) = true from rfl, cond_true]
   rw [show (Nat.ble a b && Nat.ble b c && (Nat.ble c l.length || Nat.ble c (extent h id off 1)) && Nat.blt 0 l.length) = true by
    rw [Bool.and_eq_true, Bool.and_eq_true, Bool.and_eq_true, Bool.or_eq_true, ble_iff, ble_iff, ble_iff]
    exact ⟨⟨⟨hab, hb⟩, .inl hc⟩, by rw [Nat.blt]; exact ble_iff.2 (by omega)⟩, cond_true]
theorem view_sl (hv : View h v l) (hl : 1 ≤ l.length) : ∃ id off cap, v = .sl id off l.length cap := by
 rcases hv.2 with ⟨_, rfl⟩ | ⟨id, off, cap, _, _, _, rfl, _⟩
 ·simp at hl
 ·exact ⟨id, off, cap, rfl⟩
theorem bnd_ok {k : IntKind} {n : Int} (hn : 0 ≤ n) : optB (some (V.int k n)) = some (some n.toNat) := by
 simp only [optB, bndV, decide_eq_true hn, cond_true]
end
section
variable {P : Program} {h h' : H} {S : List Assn} {X : Assn} {v w x : V} {cs : List V} {l m : List Nat} {k : Nat}
theorem arr_at {t e : TypeId} {i q j : Nat} (s : Sat h S) (hj : getA S j = some (.arr q v cs)) (hi : i * q + q ≤ cs.length) (hq : 1 ≤ q) (hu : P.underlying t = some (.slice e)) (hse : sizeT P e = some q) :
  ∃ id off, indexAddrV P t v (.int .i64 (i : Int)) = some (.ptr id off) ∧ (isAggT P e = some true → loadV P h e (.ptr id off) = some (.agg ((cs.drop (i * q)).take q))) := by
 obtain ⟨m, r, h1, h2, h3⟩ := s.at hj
 rcases h3.2 with ⟨_, rfl⟩ | ⟨id, n, cap, N, rest, rfl, hg, e1, e2, _⟩
 ·simp at hi; omega
 ·refine ⟨id, i * q, ?_, fun ht => ?_⟩
  ·simp only [indexAddrV, hu, hse, Int.toNat_natCast]
   have : i < n := by
    have h4 : i * q + q = (i + 1) * q := by rw [Nat.add_mul, Nat.one_mul]
    rw [h4, e1] at hi
    exact Nat.lt_of_succ_le (Nat.le_of_mul_le_mul_right hi hq)
   rw [show (decide ((0 : Int) ≤ (i : Int)) && decide ((i : Int) < (n : Int))) = true by simp; omega, cond_true]
   simp
  ·rw [ldN ht hse (h1 _ _ hg) (by simp; omega) (by omega)]
   rw [List.drop_append_of_le_length (by omega), List.take_append_of_le_length (by simp; omega)]
theorem Sat.apartB (s : Sat h (bufA v l :: X :: S)) (hX : Ent X (rdB w m)) : ∀ i ∈ rowIds w, i ∉ rowIds v := by
 intro i hi hi2
 obtain ⟨a, r, h1, h2, h3, b, c, g1, g2, g3, g4, d, e, k1, k2, k3, k4, k5⟩ := s.ok
 have hb := buf_ids g4 i hi2
 have hw : ∀ q : PM, ViewM q w m → q i ≠ none := fun q hq => by
  rcases hq.2 with ⟨rfl | ⟨ea, rfl⟩, _⟩ | ⟨id, off, cap, n, cs, st, rfl, hg, _⟩
  ·simp [rowIds] at hi
  ·simp [rowIds] at hi
  ·simp [rowIds] at hi; subst hi; rw [hg]; simp
 rcases hX _ _ k4 with hq | hq
 ·have h4 := hw _ hq
  cases hd : d i with
  | none => exact h4 hd
  | some o =>
   rcases g1 i with e1 | e1
   ·exact hb e1
   ·rw [k2 _ _ hd] at e1; cases e1
 ·have h4 := hw _ hq
  cases hbb : b i with
  | none => exact hb hbb
  | some o =>
   rcases h3 i with e1 | e1
   ·rw [g2 _ _ hbb] at e1; cases e1
   ·exact h4 e1
end
end Go.Proofs.YtconhghphklfjaaGreat.Am
