/- Whatever groups are done and dropped, written out and checkpointed between, each page is as the groups that were done made it; the conditions are those of the given statement, for arguments that a machine can hold. Part 45 of 49. -/
import Derived.Test.YtconhghphklfjaaGreatP44
namespace Go.Proofs.YtconhghphklfjaaGreat.Am
open Go
theorem Near.back {π π' : Pl} (hn : Near π π') {i : Nat} {x : Fm} (hx : π'.frames[i]? = some x) : ∃ f t, π.frames[i]? = some f ∧ x = { f with touch := t } := by
 have hi := (List.getElem?_eq_some_iff.1 hx).1
 rw [hn.len] at hi
 have hf : π.frames[i]? = some (π.frames[i]'hi) := List.getElem?_eq_getElem _
 obtain ⟨t, ht⟩ := hn.get i _ hf
 rw [hx] at ht
 exact ⟨_, t, hf, Option.some.inj ht⟩
theorem EC.near {N : Nat} {ε : Eng} {π' : Pl} (h : EC N ε) (hn : Near ε.1 π') : EC N (π', ε.2) ∧ ∀ n, pgA (π', ε.2) n = pgA ε n := by
 refine ⟨⟨h.dk, by rw [hn.wher]; exact h.nodup, fun n i hi => ?_, fun i x hx => ?_, by rw [hn.dirty]; exact h.dirt, by rw [hn.dirty]; exact h.dnd⟩, fun n => ?_⟩
 ·rw [hn.wher] at hi
  obtain ⟨h0, j, f, rfl, hf, hp⟩ := h.lies n i hi
  obtain ⟨t, ht⟩ := hn.get j f hf
  exact ⟨h0, j, _, rfl, ht, hp⟩
 ·obtain ⟨f, t, hf, rfl⟩ := hn.back hx
  rcases h.back i f hf with h1 | h1
  ·exact .inl h1
  ·exact .inr ⟨h1.lt, by rw [hn.wher]; exact h1.here, h1.chk, h1.same, h1.chg⟩
 ·unfold pgA
  simp only [hn.wher]
  cases hl : lookL n ε.1.wher with
  | none => rfl
  | some i =>
   obtain ⟨h0, j, f, rfl, hf, hp⟩ := h.lies n i hl
   obtain ⟨t, ht⟩ := hn.get j f hf
   simp only [Int.toNat_natCast, ht, hf]
theorem EC.freed {N : Nat} {ε : Eng} {i : Nat} {f g : Fm} (h : EC N ε) (hg : ε.1.frames[i]? = some g) (hp : g.page = f.page) (hc : 0 ≤ g.page → g.changed = false) : EC N (freed ε.1 i f, ε.2) ∧ (∀ n, pgA (freed ε.1 i f, ε.2) n = pgA ε n) ∧
  (freed ε.1 i f).frames[i]? = some emptyF ∧ ∀ n, lookL n ε.1.wher = none → lookL n (freed ε.1 i f).wher = none := by
 have hi := (List.getElem?_eq_some_iff.1 hg).1
 have hself : (ε.1.frames.set i emptyF)[i]? = some emptyF := List.getElem?_set_self hi
 have hwh : ∀ n, lookL n (Am.freed ε.1 i f).wher = if 0 ≤ f.page ∧ f.page = n then none else lookL n ε.1.wher := fun n => by
  rw [Am.freed]
  by_cases h0 : f.page < 0
  ·rw [if_pos h0, if_neg (by omega)]
  ·rw [if_neg h0, lookL_del h.nodup]
   by_cases hn : f.page = n
   ·rw [if_pos hn, if_pos ⟨by omega, hn⟩]
   ·rw [if_neg hn, if_neg (by omega)]
 refine ⟨⟨h.dk, ?_, fun n k hk => ?_, fun j x hx => ?_, h.dirt, h.dnd⟩, fun n => ?_, hself, fun n hn => ?_⟩
 ·rw [Am.freed]
  by_cases h0 : f.page < 0
  ·rw [if_pos h0]; exact h.nodup
  ·rw [if_neg h0]; exact nodup_delL h.nodup
 ·rw [hwh] at hk
  split at hk
  ·cases hk
  ·rename_i hne
   obtain ⟨h0, j, x, rfl, hx, hxp⟩ := h.lies n k hk
   refine ⟨h0, j, x, rfl, ?_, hxp⟩
   show (ε.1.frames.set i emptyF)[j]? = some x
   rw [List.getElem?_set_ne]
   ·exact hx
   ·rintro rfl
    rw [hg] at hx
    have := Option.some.inj hx
    subst this
    omega
 ·rcases fmget_set hg hx with ⟨rfl, rfl⟩ | ⟨hij, hx⟩
  ·exact .inl (by decide)
  ·rcases h.back j x hx with h1 | h1
   ·exact .inl h1
   ·by_cases hx0 : x.page < 0
    ·exact .inl hx0
    refine .inr ⟨h1.lt, ?_, h1.chk, h1.same, h1.chg⟩
    rw [hwh, if_neg]
    ·exact h1.here
    ·rintro ⟨h0, hpp⟩
     rcases h.back i g hg with h2 | h2
     ·omega
     ·have e := h2.here
      rw [hp, hpp, h1.here] at e
      have := Option.some.inj e
      omega
 ·rcases h.cases n with ⟨j, x, hl, hx, hxp, h0, ho, e⟩ | ⟨hl, e⟩
  ·rw [e]
   by_cases hpp : f.page = n
   ·have hij : i = j := by
     rcases h.back i g hg with h2 | h2
     ·omega
     ·have e := h2.here
      rw [hp, hpp, hl] at e
      have := Option.some.inj e
      omega
    subst hij
    rw [hg] at hx
    have := Option.some.inj hx
    subst this
    rw [pgA_none (by rw [hwh, if_pos ⟨by omega, hpp⟩])]
    rw [ho.same (hc (by omega)), hp, hpp]
   ·refine pgA_some (j := j) (by rw [hwh, if_neg (by omega)]; exact hl) ?_
    show (ε.1.frames.set i emptyF)[j]? = some x
    rw [List.getElem?_set_ne]
    ·exact hx
    ·rintro rfl
     rw [hg] at hx
     have := Option.some.inj hx
     subst this
     omega
  ·rw [e, pgA_none (by rw [hwh]; split; rfl; exact hl)]
 ·rw [hwh]; split; rfl; exact hn
theorem EC.loaded {N : Nat} {ε : Eng} {i : Nat} {e : Fm} {n : Int} (h : EC N ε) (he : ε.1.frames[i]? = some e) (hp : e.page < 0) (hl : lookL n ε.1.wher = none) (h0 : 0 ≤ n) (h1 : n < N) : EC N (loaded ε.1 i n (ε.2.2.at n), ε.2) ∧ ∀ m, pgA (loaded ε.1 i n (ε.2.2.at n), ε.2) m = pgA ε m := by
 have hi := (List.getElem?_eq_some_iff.1 he).1
 have hself : (ε.1.frames.set i ⟨n, ε.2.2.at n, 1, true, false⟩)[i]? = some ⟨n, ε.2.2.at n, 1, true, false⟩ := List.getElem?_set_self hi
 have hwh : ∀ m, lookL m (Am.loaded ε.1 i n (ε.2.2.at n)).wher = if n = m then some (i : Int) else lookL m ε.1.wher := fun m => lookL_put _
 refine ⟨⟨h.dk, nodup_putL h.nodup, fun m k hk => ?_, fun j x hx => ?_, h.dirt, h.dnd⟩, fun m => ?_⟩
 ·rw [hwh] at hk
  split at hk
  ·rename_i hnm
   have := Option.some.inj hk
   subst this
   subst hnm
   exact ⟨h0, i, _, rfl, hself, rfl⟩
  ·rename_i hne
   obtain ⟨h0, j, x, rfl, hx, hxp⟩ := h.lies m k hk
   refine ⟨h0, j, x, rfl, ?_, hxp⟩
   show (ε.1.frames.set i _)[j]? = some x
   rw [List.getElem?_set_ne]
   ·exact hx
   ·rintro rfl
    rw [he] at hx
    have := Option.some.inj hx
    subst this
    omega
 ·rcases fmget_set he hx with ⟨rfl, rfl⟩ | ⟨hij, hx⟩
  ·exact .inr ⟨h1, by rw [hwh, if_pos rfl], h.dk.good n h0 h1, fun _ => rfl, fun hq => (by cases hq)⟩
  ·rcases h.back j x hx with h2 | h2
   ·exact .inl h2
   ·refine .inr ⟨h2.lt, ?_, h2.chk, h2.same, h2.chg⟩
    rw [hwh, if_neg]
    ·exact h2.here
    ·rintro rfl
     rw [h2.here] at hl; cases hl
 ·by_cases hnm : n = m
  ·subst hnm
   rw [pgA_some (j := i) (by rw [hwh, if_pos rfl]) hself, pgA_none hl]
  ·rcases h.cases m with ⟨j, x, hl2, hx, hxp, _, ho, e2⟩ | ⟨hl2, e2⟩
   ·rw [e2]
    refine pgA_some (j := j) (by rw [hwh, if_neg hnm]; exact hl2) ?_
    show (ε.1.frames.set i _)[j]? = some x
    rw [List.getElem?_set_ne]
    ·exact hx
    ·rintro rfl
     rw [he] at hx
     have := Option.some.inj hx
     subst this
     omega
   ·rw [e2, pgA_none (by rw [hwh, if_neg hnm]; exact hl2)]
theorem EC.frame {N : Nat} {ε : Eng} {i : Nat} {f g : Fm} (h : EC N ε) (hf : ε.1.frames[i]? = some f) (hp : g.page = f.page) (hb : g.b = f.b) (hc : g.changed = f.changed) : EC N ({ ε.1 with frames := ε.1.frames.set i g }, ε.2) ∧ ∀ n, pgA ({ ε.1 with frames := ε.1.frames.set i g }, ε.2) n = pgA ε n := by
 refine ⟨h.set (y := ε.2.1) (δ := ε.2.2) hf hp h.dk ?_ (fun _ _ _ _ _ => rfl) h.dirt h.dnd, fun n => pgA_set hf hb (fun _ => rfl) h.there⟩
 rcases h.back i f hf with h1 | h1
 ·exact .inl (by omega)
 ·exact .inr ⟨by rw [hp]; exact h1.lt, by rw [hp]; exact h1.here, by rw [hb]; exact h1.chk, by rw [hp, hb, hc]; exact h1.same, by rw [hb, hc]; exact h1.chg⟩
theorem PinR.ec {N : Nat} {ε ε' : Eng} {n e : Int} {b : List Nat} (hr : PinR ε n e b ε') (h : EC N ε) : EC N ε' ∧ (∀ m, pgA ε' m = pgA ε m) ∧ (0 ≤ n → n < N → e = 0 ∧ b = pgA ε n) ∧ (¬(0 ≤ n ∧ n < N) → e = 1 ∧ ε' = ε) := by
 have hpg := h.dk.pages
 cases hr with
 | arg hn => rw [hpg] at hn; exact ⟨h, fun _ => rfl, fun a b => absurd ⟨a, b⟩ hn, fun _ => ⟨rfl, rfl⟩⟩
 | hit i f h1 h2 hl hf =>
  rw [hpg] at h2
  obtain ⟨k1, k2⟩ := h.frame (g := { f with touch := true, pins := f.pins + 1 }) hf rfl rfl rfl
  exact ⟨k1, k2, fun _ _ => ⟨rfl, (pgA_some hl hf).symm⟩, fun hn => absurd ⟨h1, h2⟩ hn⟩
 | out π' i f h1 h2 hl hn hf hh he => exact absurd ((h.near hn).1.out hf).1 he
 | read π' i f h1 h2 hl hn hf hh he hr =>
  obtain ⟨k1, k2, k3, k4, g, k5, k6, k7⟩ := (h.near hn).1.out hf
  refine absurd ?_ hr
  rw [hpg] at h2
  rw [Dk.readE, if_neg (by rw [k2.dk.alive]; decide), if_neg (by rw [k2.dk.pages]; exact not_not_intro ⟨h1, h2⟩)]
 | bad π' i f h1 h2 hl hn hf hh he hr hc =>
  obtain ⟨k1, k2, k3, k4, g, k5, k6, k7⟩ := (h.near hn).1.out hf
  rw [hpg] at h2
  exact absurd (k2.dk.good n h1 h2) hc
 | load π' i f h1 h2 hl hn hf hh he hr hc =>
  obtain ⟨n1, n2⟩ := h.near hn
  obtain ⟨k1, k2, k3, k4, g, k5, k6, k7⟩ := n1.out hf
  rw [hpg] at h2
  obtain ⟨f1, f2, f3, f4⟩ := k2.freed k5 k6 k7
  have hl2 : lookL n (outF (π', ε.2) i).2.1.wher = none := by rw [k4]; show lookL n π'.wher = none; rw [hn.wher]; exact hl
  obtain ⟨l1, l2⟩ := f1.loaded f3 (by decide) (f4 n hl2) h1 h2
  exact ⟨l1, fun m => by rw [l2, f2, k3, n2], fun _ _ => ⟨rfl, by rw [← n2, ← k3, pgA_none hl2]⟩, fun hn => absurd ⟨h1, h2⟩ hn⟩
theorem unpinF_ec {N : Nat} {π : Pl} {x : LD} {n : Int} (h : EC N (π, x)) : EC N ((unpinF π n).2, x) ∧ ∀ m, pgA ((unpinF π n).2, x) m = pgA (π, x) m := by
 unfold unpinF
 split
 ·exact ⟨h, fun _ => rfl⟩
 ·split
  ·exact ⟨h, fun _ => rfl⟩
  ·rename_i i hi f hf
   exact h.frame (g := { f with pins := f.pins - 1 }) hf rfl rfl rfl
theorem RdR.ec {N : Nat} {ε ε' : Eng} {n e : Int} {b : List Nat} (hr : RdR ε n e b ε') (h : EC N ε) (hp : ∀ f ∈ ε.1.frames, f.pins = 0) : EC N ε' ∧ (∀ m, pgA ε' m = pgA ε m) ∧ (0 ≤ n → n < N → e = 0 ∧ b = pgA ε n) ∧ (¬(0 ≤ n ∧ n < N) → e = 1 ∧ ε' = ε) := by
 cases hr with
 | dead hd => rw [h.dk.alive] at hd; cases hd
 | pin e b ε' hd hr he =>
  obtain ⟨k1, k2, k3, k4⟩ := hr.ec h
  exact ⟨k1, k2, fun a b => absurd (k3 a b).1 he, k4⟩
 | unpin b ε' hd hr he => exact absurd (hr.unpinned hp).1 he
 | read b ε' hd hr he =>
  obtain ⟨k1, k2, k3, k4⟩ := hr.ec h
  obtain ⟨u1, u2⟩ := unpinF_ec (n := n) k1
  refine ⟨u1, fun m => by rw [u2]; exact k2 m, k3, fun hn => absurd (k4 hn).1 (by decide)⟩
theorem GRd.ec {N : Nat} {ε ε' : Eng} {now : List (Int × List Nat)} {n e : Int} {b : List Nat} (hr : GRd ε now false n e b ε') (h : EC N ε) (hp : ∀ f ∈ ε.1.frames, f.pins = 0) : EC N ε' ∧ (∀ m, pgA ε' m = pgA ε m) ∧
  (0 ≤ n → n < N → e = 0 ∧ b = (match lookL n now with | some b => b | none => pgA ε n)) ∧ (¬(0 ≤ n ∧ n < N) → e = 1) := by
 have hpg := h.dk.pages
 cases hr with
 | arg hn => rw [hpg] at hn; exact ⟨h, fun _ => rfl, fun a b => absurd ⟨a, b⟩ hn, fun _ => rfl⟩
 | over _ _ ho => cases ho
 | own b h1 h2 _ hl => rw [hpg] at h2; exact ⟨h, fun _ => rfl, fun _ _ => ⟨rfl, by rw [hl]⟩, fun hn => absurd ⟨h1, h2⟩ hn⟩
 | read e b ε' h1 h2 _ hl hr =>
  rw [hpg] at h2
  obtain ⟨k1, k2, k3, k4⟩ := hr.ec h hp
  exact ⟨k1, k2, fun a b => by rw [hl]; exact k3 a b, fun hn => absurd ⟨h1, h2⟩ hn⟩
end Go.Proofs.YtconhghphklfjaaGreat.Am
namespace Go.Proofs.YtconhghphklfjaaGreat.Am
open Go
theorem nodup_len : ∀ (N : Nat) (l : List Int), l.Nodup → (∀ n ∈ l, 0 ≤ n ∧ n < N) → l.length ≤ N := by
 intro N
 induction N with
 | zero =>
  intro l _ h
  cases l with
  | nil => exact Nat.le_refl _
  | cons n l => have := h n List.mem_cons_self; omega
 | succ N ih =>
  intro l hd h
  have h1 := ih (l.erase (N : Int)) (hd.erase _) fun n hn => by
   have h2 := (hd.mem_erase_iff).1 hn
   have := h n h2.2
   have := h2.1
   omega
  have h2 : l.length ≤ (l.erase (N : Int)).length + 1 := by
   rw [List.length_erase]; split <;> omega
  omega
structure NW (N : Nat) (now : List (Int × List Nat)) : Prop where
 good : ∀ e ∈ now, goodL e.2 = true ∧ ∀ x ∈ e.2, x < 256
 keys : ∀ k : Int, k ∈ now.map (·.1) → 0 ≤ k ∧ k < N
 nodup : (now.map (·.1)).Nodup
theorem NW.nil (N : Nat) : NW N [] := ⟨fun e h => (by cases h), fun k h => (by cases h), List.nodup_nil⟩
theorem nowmem_put {α : Type} {n : Int} {a : α} : ∀ {l : List (Int × α)} {e : Int × α}, e ∈ putL n a l → e = (n, a) ∨ e ∈ l := by
 intro l
 induction l with
 | nil => intro e h; simp only [putL, List.mem_singleton] at h; exact .inl h
 | cons x l ih =>
  intro e h
  simp only [putL] at h
  split at h
  ·rcases List.mem_cons.1 h with h | h
   ·exact .inl h
   ·exact .inr (List.mem_cons_of_mem _ h)
  ·rcases List.mem_cons.1 h with h | h
   ·exact .inr (by rw [h]; exact List.mem_cons_self)
   ·rcases ih h with h | h
    ·exact .inl h
    ·exact .inr (List.mem_cons_of_mem _ h)
theorem NW.put {N : Nat} {now : List (Int × List Nat)} {n : Int} {b : List Nat} (h : NW N now) (h0 : 0 ≤ n) (h1 : n < N) (hg : goodL b = true) (hb : ∀ x ∈ b, x < 256) : NW N (putL n b now) := by
 refine ⟨fun e he => ?_, fun k hk => ?_, nodup_putL h.nodup⟩
 ·rcases nowmem_put he with rfl | he
  ·exact ⟨hg, hb⟩
  ·exact h.good e he
 ·rcases mem_putL.1 hk with rfl | hk
  ·exact ⟨h0, h1⟩
  ·exact h.keys k hk
theorem NW.len {N : Nat} {now : List (Int × List Nat)} (h : NW N now) : now.length ≤ N := by
 have := nodup_len N _ h.nodup h.keys
 rwa [List.length_map] at this
theorem NW.look {N : Nat} {now : List (Int × List Nat)} (h : NW N now) {n : Int} {b : List Nat} (hl : lookL n now = some b) : goodL b = true ∧ ∀ x ∈ b, x < 256 := h.good _ (lookL_mem hl)
theorem GWr.ec {N : Nat} {ε ε' : Eng} {now now' : List (Int × List Nat)} {n e : Int} {b : List Nat} (hr : GWr ε now false n b e now' ε') (h : EC N ε) (hp : ∀ f ∈ ε.1.frames, f.pins = 0) : EC N ε' ∧ (∀ m, pgA ε' m = pgA ε m) ∧
  (¬(0 ≤ n ∧ n < N) → e = 1 ∧ now' = now) ∧ (0 ≤ n → n < N → goodL b = false → e = 4 ∧ now' = now) ∧ (0 ≤ n → n < N → goodL b = true → e = 0 ∧ now' = putL n b now) := by
 cases hr with
 | may e c ε' hr he =>
  obtain ⟨k1, k2, k3, k4⟩ := hr.ec h hp
  exact ⟨k1, k2, fun hn => ⟨k4 hn, rfl⟩, fun a b _ => absurd (k3 a b).1 he, fun a b _ => absurd (k3 a b).1 he⟩
 | bad c ε' hr hg =>
  obtain ⟨k1, k2, k3, k4⟩ := hr.ec h hp
  exact ⟨k1, k2, fun hn => absurd (k4 hn) (by decide), fun _ _ _ => ⟨rfl, rfl⟩, fun _ _ hq => by rw [hg] at hq; cases hq⟩
 | done c ε' hr hg =>
  obtain ⟨k1, k2, k3, k4⟩ := hr.ec h hp
  exact ⟨k1, k2, fun hn => absurd (k4 hn) (by decide), fun _ _ hq => (by rw [hg] at hq; cases hq), fun _ _ _ => ⟨rfl, rfl⟩⟩
theorem ChR.ec {N : Nat} {now : List (Int × List Nat)} {l : List Int} {ε ε' : Eng} {e : Int} {cs : List Chg} (hr : ChR now l ε e cs ε') : EC N ε → EOk3 ε → (∀ n ∈ l, 0 ≤ n ∧ n < N) → EC N ε' ∧ (∀ m, pgA ε' m = pgA ε m) ∧ e = 0 := by
 induction hr with
 | nil ε => intro h _ _; exact ⟨h, fun _ => rfl, rfl⟩
 | err n l ε e b ε' hr he =>
  intro h h3 hl
  obtain ⟨k1, k2, k3, k4⟩ := hr.ec h h3.pins
  have := hl n List.mem_cons_self
  exact absurd (k3 this.1 this.2).1 he
 | part n l ε was b ε' c e cs ε'' hr hb hd hc hcl ht ih =>
  intro h h3 hl
  obtain ⟨k1, k2, k3, k4⟩ := hr.ec h h3.pins
  obtain ⟨i1, i2, i3⟩ := ih k1 (hr.ok3 h3) fun m hm => hl m (List.mem_cons_of_mem _ hm)
  exact ⟨i1, fun m => by rw [i2, k2], i3⟩
 | whole n l ε was b ε' e cs ε'' hr hb hd ht ih =>
  intro h h3 hl
  obtain ⟨k1, k2, k3, k4⟩ := hr.ec h h3.pins
  obtain ⟨i1, i2, i3⟩ := ih k1 (hr.ok3 h3) fun m hm => hl m (List.mem_cons_of_mem _ hm)
  exact ⟨i1, fun m => by rw [i2, k2], i3⟩
theorem EC.log {N : Nat} {ε : Eng} {x : LD} (h : EC N ε) (k : DK ε.2.2 x.2) : EC N (ε.1, x) ∧ ∀ m, pgA (ε.1, x) m = pgA ε m := by
 refine ⟨⟨h.dk.of k, h.nodup, h.lies, fun i f hf => ?_, h.dirt, h.dnd⟩, fun m => ?_⟩
 ·rcases h.back i f hf with h1 | h1
  ·exact .inl h1
  ·exact .inr ⟨h1.lt, h1.here, h1.chk, fun hc => by rw [k.at]; exact h1.same hc, h1.chg⟩
 ·unfold pgA
  simp only [k.at]
theorem EC.put {N : Nat} {ε : Eng} {n : Int} {i : Nat} {f : Fm} {b : List Nat} {lsn : Nat} (h : EC N ε) (hl : lookL n ε.1.wher = some (i : Int)) (hf : ε.1.frames[i]? = some f) (hg : goodL b = true) (hb : ∀ x ∈ b, x < 256) (h0 : 0 ≤ n) (h1 : n < N) :
  EC N (putX ε.1 n i f b lsn, ε.2) ∧ ∀ m, pgA (putX ε.1 n i f b lsn, ε.2) m = if m = n then sealL b lsn else pgA ε m := by
 obtain ⟨s1, s2, s3⟩ := seal_good (n := lsn) hg hb
 have hi := (List.getElem?_eq_some_iff.1 hf).1
 have hp : f.page = n := by
  obtain ⟨_, j, x, hij, hx, hxp⟩ := h.lies n i hl
  have : i = j := by omega
  subst this
  rw [hf] at hx
  rw [Option.some.inj hx]; exact hxp
 have ho := (h.back i f hf).resolve_left (by omega)
 refine ⟨h.set (y := ε.2.1) (δ := ε.2.2) hf rfl h.dk (.inr ⟨ho.lt, ho.here, s1, fun hq => (by cases hq), fun _ => s2⟩) (fun _ _ _ _ _ => rfl) (fun k hk => ?_) (nodup_putL h.dnd), fun m => ?_⟩
 ·rcases mem_putL.1 hk with rfl | hk
  ·exact ⟨h0, h1⟩
  ·exact h.dirt k hk
 ·by_cases hm : m = n
  ·subst hm
   rw [if_pos rfl]
   exact pgA_some (ε := (putX ε.1 m i f b lsn, ε.2)) hl (List.getElem?_set_self hi)
  ·rw [if_neg hm]
   rcases h.cases m with ⟨j, x, hl2, hx, hxp, _, _, e2⟩ | ⟨hl2, e2⟩
   ·rw [e2]
    refine pgA_some (ε := (putX ε.1 n i f b lsn, ε.2)) hl2 ?_
    show (ε.1.frames.set i _)[j]? = some x
    rw [List.getElem?_set_ne]
    ·exact hx
    ·rintro rfl
     rw [hf] at hx
     have := Option.some.inj hx
     subst this
     omega
   ·rw [e2]
    exact pgA_none (ε := (putX ε.1 n i f b lsn, ε.2)) hl2
theorem PtR.ec {N : Nat} {now : List (Int × List Nat)} {lsn : Nat} {l : List Int} {ε ε' : Eng} {e : Int} (hr : PtR now lsn l ε e ε') : EC N ε → EOk3 ε → NW N now → (∀ n ∈ l, 0 ≤ n ∧ n < N) → EC N ε' ∧ e = 0 ∧
  ∀ m, pgA ε' m = if m ∈ l then (match lookL m now with | some b => sealL b lsn | none => pgA ε m) else pgA ε m := by
 induction hr with
 | nil ε => intro h _ _ _; exact ⟨h, rfl, fun m => by rw [if_neg (by simp)]⟩
 | pin n l ε e b ε' hr he =>
  intro h h3 hn hl
  have := hl n List.mem_cons_self
  exact absurd ((hr.ec h).2.2.1 this.1 this.2).1 he
 | bad n l ε b0 b ε' hr hb he =>
  intro h h3 hn hl
  exact absurd ((hr.put (b := b) (lsn := lsn) h3).2.2 (hn.look hb).1) he
 | put n l ε b0 b ε' e ε'' hr hb he ht ih =>
  intro h h3 hn hl
  have hr1 := hl n List.mem_cons_self
  obtain ⟨k1, k2, k3, k4⟩ := hr.ec h
  obtain ⟨i, f, p1, p2, p3, p4, p5⟩ := hr.at h3.pins
  have hg := hn.look hb
  have e1 := putUn_good (lsn := lsn) p1 p2 p3 hg.1
  obtain ⟨q1, q2⟩ := k1.put (lsn := lsn) p1 p2 hg.1 hg.2 hr1.1 hr1.2
  have h3' := (hr.put (b := b) (lsn := lsn) h3).1
  rw [e1] at ih h3'
  obtain ⟨i1, i2, i3⟩ := ih q1 h3' hn fun m hm => hl m (List.mem_cons_of_mem _ hm)
  refine ⟨i1, i2, fun m => ?_⟩
  rw [i3, q2]
  by_cases hm : m = n
  ·subst hm
   rw [if_pos rfl, if_pos (List.mem_cons_self)]
   split
   ·rw [hb]
   ·rw [hb]
  ·rw [if_neg hm, k2]
   by_cases hml : m ∈ l
   ·rw [if_pos hml, if_pos (List.mem_cons_of_mem _ hml)]
   ·rw [if_neg hml, if_neg (by simp [hm, hml])]
theorem writeAllF_ec {N : Nat} : ∀ {l : List Int} {ε : Eng}, EC N ε → (∀ n ∈ l, (lookL n ε.1.wher).isSome = true) → (writeAllF l ε).1 = 0 ∧ EC N (writeAllF l ε).2 ∧ (∀ m, pgA (writeAllF l ε).2 m = pgA ε m) := by
 intro l
 induction l with
 | nil => intro ε h _; exact ⟨rfl, h, fun _ => rfl⟩
 | cons n l ih =>
  intro ε h hl
  have h1 := hl n List.mem_cons_self
  cases hq : lookL n ε.1.wher with
  | none => rw [hq] at h1; cases h1
  | some i =>
   obtain ⟨_, j, f, rfl, hf, hp⟩ := h.lies n i hq
   obtain ⟨k1, k2, k3, k4, _⟩ := h.out hf
   have e : pwriteF ε n = outF ε j := by rw [pwriteF, hq]; simp only [Int.toNat_natCast]
   rw [writeAllF, e, if_neg (by rw [k1]; decide)]
   obtain ⟨i1, i2, i3⟩ := ih k2 fun m hm => by rw [k4]; exact hl m (List.mem_cons_of_mem _ hm)
   exact ⟨i1, i2, fun m => by rw [i3, k3]⟩
theorem psyncF_ec {N : Nat} {ε : Eng} (h : EC N ε) : (psyncF ε.1 ε.2.2).1 = 0 ∧ EC N ((psyncF ε.1 ε.2.2).2.1, (ε.2.1, (psyncF ε.1 ε.2.2).2.2)) ∧ ∀ m, 0 ≤ m → pgA ((psyncF ε.1 ε.2.2).2.1, (ε.2.1, (psyncF ε.1 ε.2.2).2.2)) m = pgA ε m := by
 obtain ⟨s1, s2, s3⟩ := syncF_a h.dk
 have e : psyncF ε.1 ε.2.2 = (0, { ε.1 with dirty := ε.1.dirty.filter fun e => e.2.2 }, ε.2.2.syncF.2) := by rw [psyncF, if_neg (by rw [s1]; decide)]
 rw [e]
 have hsub : ∀ k, k ∈ ((ε.1.dirty.filter fun e => e.2.2).map (·.1)) → k ∈ ε.1.dirty.map (·.1) := fun k hk => by
  obtain ⟨x, hx, rfl⟩ := List.mem_map.1 hk
  exact List.mem_map_of_mem (List.mem_filter.1 hx).1
 refine ⟨rfl, ⟨s2, h.nodup, h.lies, fun i f hf => ?_, fun k hk => h.dirt k (hsub k hk), (List.filter_sublist.map _).nodup h.dnd⟩, fun m hm => ?_⟩
 ·rcases h.back i f hf with h1 | h1
  ·exact .inl h1
  ·by_cases h0 : f.page < 0
   ·exact .inl h0
   ·exact .inr ⟨h1.lt, h1.here, h1.chk, fun hc => by rw [s3 _ (by omega)]; exact h1.same hc, h1.chg⟩
 ·unfold pgA
  simp only [s3 m hm]
end Go.Proofs.YtconhghphklfjaaGreat.Am
namespace Go.Proofs.YtconhghphklfjaaGreat.Am
open Go
structure EL (K : Nat) (x : LD) : Prop where
 log : x.1.b = x.2.log
 cert : x.1.forced ≤ x.2.certain
 size : x.1.base + x.1.b.length ≤ K
theorem EL.force {K : Nat} {x : LD} {n : Nat} (h : EL K x) : EL K (forceLD x n).2 := by
 unfold forceLD Dk.forceF
 split
 ·exact h
 ·by_cases hd : x.2.dead = true
  ·rw [if_pos hd, if_pos (show (9 : Int) ≠ 0 by decide)]; exact h
  ·rw [if_neg hd]
   by_cases h0 : x.2.fuse = 0
   ·rw [if_pos h0, if_pos (show (9 : Int) ≠ 0 by decide)]; exact ⟨h.log, h.cert, h.size⟩
   ·rw [if_neg h0, if_neg (show ¬(0 : Int) ≠ 0 by decide)]; exact ⟨h.log, by show x.1.b.length ≤ x.2.log.length; rw [h.log]; exact Nat.le_refl _, h.size⟩
theorem EL.write {K : Nat} {x : LD} {n : Int} {b : List Nat} (h : EL K x) : EL K (x.1, (x.2.writeF n b).2) := by
 unfold Dk.writeF
 split
 ·exact h
 ·split
  ·exact h
  ·split <;> exact ⟨h.log, h.cert, h.size⟩
theorem EL.out {K : Nat} {ε : Eng} {i : Nat} (h : EL K ε.2) : EL K (outF ε i).2.2 := by
 unfold outF
 split
 ·exact h
 ·split
  ·exact h
  ·split
   ·exact h
   ·split
    ·exact h.force
    ·split
     ·exact h.force.write
     ·exact h.force.write
theorem PinR.el {K : Nat} {ε ε' : Eng} {n e : Int} {b : List Nat} (hr : PinR ε n e b ε') (h : EL K ε.2) : EL K ε'.2 := by
 cases hr with
 | arg hn => exact h
 | hit i f h1 h2 hl hf => exact h
 | out π' i f h1 h2 hl hn hf hh he => exact EL.out (ε := (π', ε.2)) h
 | read π' i f h1 h2 hl hn hf hh he hr => exact EL.out (ε := (π', ε.2)) h
 | bad π' i f h1 h2 hl hn hf hh he hr hc => exact EL.out (ε := (π', ε.2)) h
 | load π' i f h1 h2 hl hn hf hh he hr hc => exact EL.out (ε := (π', ε.2)) h
theorem RdR.el {K : Nat} {ε ε' : Eng} {n e : Int} {b : List Nat} (hr : RdR ε n e b ε') (h : EL K ε.2) : EL K ε'.2 := by
 cases hr with
 | dead hd => exact h
 | pin e b ε' hd hr he => exact hr.el h
 | unpin b ε' hd hr he => exact hr.el h
 | read b ε' hd hr he => exact hr.el h
theorem GRd.el {K : Nat} {ε ε' : Eng} {now : List (Int × List Nat)} {over : Bool} {n e : Int} {b : List Nat} (hr : GRd ε now over n e b ε') (h : EL K ε.2) : EL K ε'.2 := by
 cases hr with
 | arg hn => exact h
 | over _ _ _ => exact h
 | own b h1 h2 _ hl => exact h
 | read e b ε' h1 h2 _ hl hr => exact hr.el h
theorem GWr.el {K : Nat} {ε ε' : Eng} {now now' : List (Int × List Nat)} {over : Bool} {n e : Int} {b : List Nat} (hr : GWr ε now over n b e now' ε') (h : EL K ε.2) : EL K ε'.2 := by
 cases hr with
 | may e c ε' hr he => exact hr.el h
 | bad c ε' hr hg => exact hr.el h
 | done c ε' hr hg => exact hr.el h
theorem ChR.el {K : Nat} {now : List (Int × List Nat)} {l : List Int} {ε ε' : Eng} {e : Int} {cs : List Chg} (hr : ChR now l ε e cs ε') : EL K ε.2 → EL K ε'.2 := by
 induction hr with
 | nil ε => exact fun h => h
 | err n l ε e b ε' hr he => exact fun h => hr.el h
 | part n l ε was b ε' c e cs ε'' hr hb hd hc hcl ht ih => exact fun h => ih (hr.el h)
 | whole n l ε was b ε' e cs ε'' hr hb hd ht ih => exact fun h => ih (hr.el h)
theorem PtR.el {K : Nat} {now : List (Int × List Nat)} {lsn : Nat} {l : List Int} {ε ε' : Eng} {e : Int} (hr : PtR now lsn l ε e ε') : EL K ε.2 → EL K ε'.2 := by
 induction hr with
 | nil ε => exact fun h => h
 | pin n l ε e b ε' hr he => exact fun h => hr.el h
 | bad n l ε b0 b ε' hr hb he => exact fun h => hr.el h
 | put n l ε b0 b ε' e ε'' hr hb he ht ih => exact fun h => ih (hr.el h)
theorem writeAllF_keep {K : Nat} : ∀ {l : List Int} {ε : Eng}, EL K ε.2 → EOk3 ε → EL K (writeAllF l ε).2.2 ∧ EOk3 (writeAllF l ε).2 ∧ pot (writeAllF l ε).2 ≤ pot ε := by
 intro l
 induction l with
 | nil => intro ε h h3; exact ⟨h, h3, Nat.le_refl _⟩
 | cons n l ih =>
  intro ε h h3
  have step : EL K (pwriteF ε n).2.2 ∧ EOk3 (pwriteF ε n).2 ∧ pot (pwriteF ε n).2 ≤ pot ε := by
   unfold pwriteF
   split
   ·exact ⟨h, h3, Nat.le_refl _⟩
   ·exact ⟨h.out, ⟨outF_ok2 h3.ok, outF_pins h3.pins, outF_full h3.full⟩, outF_pot⟩
  rw [writeAllF]
  split
  ·exact step
  ·have i := ih (ε := (pwriteF ε n).2) step.1 step.2.1
   exact ⟨i.1, i.2.1, Nat.le_trans i.2.2 step.2.2⟩
structure EI (N B : Nat) (ε : Eng) : Prop where
 ok : EOk3 ε
 ec : EC N ε
 el : EL (B * 1048600) ε.2
 pot : pot ε ≤ B * 65536
theorem EI.more {N B : Nat} {ε : Eng} (h : EI N B ε) {B' : Nat} (hb : B ≤ B') : EI N B' ε :=
 ⟨h.ok, h.ec, ⟨h.el.log, h.el.cert, Nat.le_trans h.el.size (Nat.mul_le_mul_right _ hb)⟩, Nat.le_trans h.pot (Nat.mul_le_mul_right _ hb)⟩
theorem EI.rd {N B : Nat} {ε ε' : Eng} {n e : Int} {b : List Nat} (h : EI N B ε) (hr : RdR ε n e b ε') : EI N B ε' :=
 ⟨hr.ok3 h.ok, (hr.ec h.ec h.ok.pins).1, hr.el h.el, Nat.le_trans hr.pot h.pot⟩
theorem EI.grd {N B : Nat} {ε ε' : Eng} {now : List (Int × List Nat)} {n e : Int} {b : List Nat} (h : EI N B ε) (hr : GRd ε now false n e b ε') : EI N B ε' :=
 ⟨hr.ok3 h.ok, (hr.ec h.ec h.ok.pins).1, hr.el h.el, Nat.le_trans hr.pot h.pot⟩
theorem EI.gwr {N B : Nat} {ε ε' : Eng} {now now' : List (Int × List Nat)} {n e : Int} {b : List Nat} (h : EI N B ε) (hr : GWr ε now false n b e now' ε') : EI N B ε' :=
 ⟨hr.ok3 h.ok, (hr.ec h.ec h.ok.pins).1, hr.el h.el, Nat.le_trans hr.pot h.pot⟩
theorem EI.many {N B : Nat} {ε : Eng} (h : EI N B ε) : N ≤ 65536 := by
 have := h.ok.ok.dk.many
 rwa [h.ec.dk.pages] at this
theorem EI.wher {N B : Nat} {ε : Eng} (h : EI N B ε) : (∀ n : Int, n ∈ ε.1.wher.map (·.1) → 0 ≤ n ∧ n < N) ∧ ε.1.wher.length ≤ N := by
 have hk : ∀ n : Int, n ∈ ε.1.wher.map (·.1) → 0 ≤ n ∧ n < N := fun n hn => by
  cases hq : lookL n ε.1.wher with
  | none => exact absurd hn (lookL_none.1 hq)
  | some i =>
   obtain ⟨h0, j, f, rfl, hf, hp⟩ := h.ec.lies n i hq
   have := (h.ec.back j f hf).resolve_left (by omega)
   exact ⟨h0, hp ▸ this.lt⟩
 have := nodup_len N _ h.ec.nodup hk
 rw [List.length_map] at this
 exact ⟨hk, this⟩
theorem EI.dirty {N B : Nat} {ε : Eng} (h : EI N B ε) : ε.1.dirty.length ≤ N := by
 have := nodup_len N _ h.ec.dnd h.ec.dirt
 rwa [List.length_map] at this
theorem EI.writeAll {N B : Nat} {ε : Eng} (h : EI N B ε) : (writeAllF (keysS ε.1.wher) ε).1 = 0 ∧ EI N B (writeAllF (keysS ε.1.wher) ε).2 ∧ ∀ m, pgA (writeAllF (keysS ε.1.wher) ε).2 m = pgA ε m := by
 obtain ⟨w1, w2, w3⟩ := writeAllF_ec (l := keysS ε.1.wher) h.ec fun n hn => by
  cases hq : lookL n ε.1.wher with
  | some _ => rfl
  | none => exact absurd (keysS_mem.1 hn) (lookL_none.1 hq)
 obtain ⟨k1, k2, k3⟩ := writeAllF_keep (l := keysS ε.1.wher) h.el h.ok
 exact ⟨w1, ⟨k2, w2, k1, Nat.le_trans k3 h.pot⟩, w3⟩
theorem EI.sync {N B : Nat} {ε : Eng} (h : EI N B ε) : (psyncF ε.1 ε.2.2).1 = 0 ∧ EI N B ((psyncF ε.1 ε.2.2).2.1, (ε.2.1, (psyncF ε.1 ε.2.2).2.2)) ∧ ∀ m, 0 ≤ m → pgA ((psyncF ε.1 ε.2.2).2.1, (ε.2.1, (psyncF ε.1 ε.2.2).2.2)) m = pgA ε m := by
 obtain ⟨p1, p2, p3⟩ := psyncF_ec h.ec
 refine ⟨p1, ?_, p3⟩
 have e0 : ε.2.2.syncF = (0, ε.2.2.sync) := by rw [Dk.syncF, if_neg (by rw [h.ec.dk.alive]; decide), if_neg (by have := h.ec.dk.fuse; omega), cnt_id h.ec.dk.fuse]
 have e : psyncF ε.1 ε.2.2 = (0, { ε.1 with dirty := ε.1.dirty.filter fun e => e.2.2 }, ε.2.2.sync) := by rw [psyncF, e0, if_neg (by simp)]
 rw [e] at p2 ⊢
 have hd := h.ok.ok.dk
 have hat : ∀ (i : Nat) (b : List Nat), (laidP ε.2.2.now ε.2.2.pages)[i]? = some (some b) → b.length = 512 := fun i b hb => by
  have h1 := laidP_get (n := (i : Int)) h.ec.dk.pages h.ec.dk.nodup h.ec.dk.keys (by omega)
  rw [Int.toNat_natCast] at h1
  rw [h1] at hb
  cases hq : lookL (i : Int) ε.2.2.now with
  | some x => rw [hq] at hb; simp only at hb; have := Option.some.inj (Option.some.inj hb); subst this; exact hd.now _ (lookL_mem hq)
  | none => rw [hq] at hb; exact hd.pages i b hb
 refine ⟨⟨⟨⟨h.ok.ok.pl.hand, h.ok.ok.pl.many, h.ok.ok.pl.wher, h.ok.ok.pl.len, h.ok.ok.pl.pins⟩, h.ok.ok.lg, ⟨hd.fuse, hd.len, hd.room, fun e he => (by cases he), hat, hd.certain, by show (laidP _ _).length ≤ _; rw [laidP_len]; exact hd.many⟩⟩, h.ok.pins, ⟨h.ok.full.nodup, h.ok.full.lies⟩⟩, p2, ⟨h.el.log, h.el.cert, h.el.size⟩, ?_⟩
 have := h.pot
 simp only [Am.pot] at this ⊢
 have e2 : ε.2.2.sync.waiting.length = 0 := rfl
 omega
theorem EI.clean {N B : Nat} {ε : Eng} (h : EI N B ε) : (cleanF ε).1 = 0 ∧ EI N B (cleanF ε).2 ∧ ∀ m, 0 ≤ m → pgA (cleanF ε).2 m = pgA ε m := by
 obtain ⟨w1, w2, w3⟩ := h.writeAll
 obtain ⟨p1, p2, p3⟩ := w2.sync
 have e : cleanF ε = ((psyncF (writeAllF (keysS ε.1.wher) ε).2.1 (writeAllF (keysS ε.1.wher) ε).2.2.2).1, ((psyncF (writeAllF (keysS ε.1.wher) ε).2.1 (writeAllF (keysS ε.1.wher) ε).2.2.2).2.1, ((writeAllF (keysS ε.1.wher) ε).2.2.1, (psyncF (writeAllF (keysS ε.1.wher) ε).2.1 (writeAllF (keysS ε.1.wher) ε).2.2.2).2.2))) := by
  rw [cleanF, if_neg (by rw [h.ec.dk.alive]; decide), if_neg (by rw [w1]; decide)]
 rw [e]
 exact ⟨p1, p2, fun m hm => by rw [p3 m hm, w3]⟩
theorem EI.force {N B : Nat} {ε : Eng} {n : Nat} (h : EI N B ε) : (forceLD ε.2 n).1 = 0 ∧ EI N B (ε.1, (forceLD ε.2 n).2) ∧ ∀ m, pgA (ε.1, (forceLD ε.2 n).2) m = pgA ε m := by
 obtain ⟨f1, f2⟩ := forceLD_a (n := n) h.ec.dk
 obtain ⟨l1, l2⟩ := h.ec.log f2
 refine ⟨f1, ⟨⟨⟨h.ok.ok.pl, forceLD_okL h.ok.ok.lg, forceLD_ok h.ok.ok.dk⟩, h.ok.pins, h.ok.full⟩, l1, h.el.force, ?_⟩, l2⟩
 have := h.pot
 simp only [Am.pot, forceLD_wait] at this ⊢
 exact this
theorem EI.app {N B : Nat} {ε : Eng} {kd : Int} {tx pv nx : Nat} {data : List Nat} {c : List Chg} (h : EI N B ε) (hB : B ≤ 1000) (hg : goodR kd c = true) :
  EI N (B + 1) (ε.1, (appendLD ε.2 kd tx pv nx data c).2) ∧ (∀ m, pgA (ε.1, (appendLD ε.2 kd tx pv nx data c).2) m = pgA ε m) ∧
  (((appendLD ε.2 kd tx pv nx data c).1.2 = 0 ∧ appendLD ε.2 kd tx pv nx data c = ((ε.2.1.base + ε.2.1.b.length, 0), (ε.2.1.app (nextRec ε.2.1 kd tx pv nx data c), { ε.2.2 with log := ε.2.2.log ++ nextRec ε.2.1 kd tx pv nx data c }))) ∨
   (appendLD ε.2 kd tx pv nx data c).1.2 = 7 ∨ ((appendLD ε.2 kd tx pv nx data c).1.2 = 2 ∧ 1048576 < (bodyG kd tx pv nx data c).length)) := by
 have hs := h.el.size
 have hok := appendLD_ok (kd := kd) (tx := tx) (pv := pv) (nx := nx) (data := data) (c := c) h.ok.ok.lg h.ok.ok.dk h.el.log (by omega)
 have hpot : Am.pot (ε.1, (appendLD ε.2 kd tx pv nx data c).2) ≤ (B + 1) * 65536 := by
  have e : Am.pot (ε.1, (appendLD ε.2 kd tx pv nx data c).2) = Am.pot ε := by simp only [Am.pot, hok.2.2.2.2.2.1]
  rw [e]
  exact Nat.le_trans h.pot (Nat.mul_le_mul_right _ (Nat.le_succ B))
 have hsz : (appendLD ε.2 kd tx pv nx data c).2.1.base + (appendLD ε.2 kd tx pv nx data c).2.1.b.length ≤ (B + 1) * 1048600 := by
  have h1 := hok.2.2.2.1
  have h2 := hok.2.2.2.2.1
  omega
 have main : ∀ (hk : DK ε.2.2 (appendLD ε.2 kd tx pv nx data c).2.2) (hc : (appendLD ε.2 kd tx pv nx data c).2.1.forced ≤ (appendLD ε.2 kd tx pv nx data c).2.2.certain), EI N (B + 1) (ε.1, (appendLD ε.2 kd tx pv nx data c).2) ∧ ∀ m, pgA (ε.1, (appendLD ε.2 kd tx pv nx data c).2) m = pgA ε m := fun hk hc => by
  obtain ⟨l1, l2⟩ := h.ec.log hk
  exact ⟨⟨⟨⟨h.ok.ok.pl, hok.1, hok.2.1⟩, h.ok.pins, h.ok.full⟩, l1, ⟨hok.2.2.1, hc, hsz⟩, hpot⟩, l2⟩
 rcases appendLD_cases ε.2 kd tx pv nx data c with ⟨e, he, hc, ha⟩ | ⟨hd, hf, ha⟩ | ⟨_, _, hd, hfit, hf, ha⟩
 ·obtain ⟨m1, m2⟩ := main (by rw [ha]; exact DK.refl _) (by rw [ha]; exact h.el.cert)
  refine ⟨m1, m2, .inr ?_⟩
  rw [ha]
  rcases hc with ⟨_, hb⟩ | ⟨rfl, hb⟩ | ⟨_, hb⟩ | ⟨rfl, hb⟩
  ·rw [hg] at hb; cases hb
  ·exact .inr ⟨rfl, hb⟩
  ·rw [h.ec.dk.alive] at hb; cases hb
  ·exact .inl rfl
 ·have := h.ec.dk.fuse; omega
 ·rw [cnt_id h.ec.dk.fuse] at ha
  obtain ⟨m1, m2⟩ := main (by rw [ha]; exact ⟨rfl, rfl, rfl, rfl⟩) (by rw [ha]; exact h.el.cert)
  exact ⟨m1, m2, .inl ⟨by rw [ha], ha⟩⟩
theorem EI.done {N B : Nat} {ε ε' : Eng} {now : List (Int × List Nat)} {kd : Int} {tx pv nx lsn : Nat} {data : List Nat} {e : Int} {cl : Bool} (h : EI N B ε) (hB : B ≤ 1000) (hn : NW N now) (h1 : 1 ≤ kd) (h2 : kd ≤ 7) (hr : DnR ε now kd tx pv nx data 0 lsn e cl ε') :
  (cl = false ∧ (e = 7 ∨ e = 2) ∧ EI N (B + 2) ε' ∧ ∀ m, pgA ε' m = pgA ε m) ∨
  (cl = true ∧ e = 0 ∧ EI N (B + 2) ε' ∧ ∀ m, pgA ε' m = match lookL m now with | some b => sealL b lsn | none => pgA ε m) := by
 have hkeys : ∀ n ∈ keysS now, 0 ≤ n ∧ n < N := fun n hq => hn.keys n (keysS_mem.1 hq)
 have hN := h.many
 have hfit : ∀ {c : List Chg} {ε' : Eng} {e : Int}, ChR now (keysS now) ε e c ε' → goodR kd c = true := fun hc => by
  refine chs_good ⟨h1, by omega⟩ (hc.fit (fun x hx => good512 (hn.good x hx).1) fun n hq => ?_)
  have := hkeys n hq
  omega
 cases hr with
 | arg hq => omega
 | dead _ _ _ hd => rw [h.ec.dk.alive] at hd; cases hd
 | chg e c ε' _ _ _ hd hc he => exact absurd (hc.ec h.ec h.ok hkeys).2.2 he
 | app c ε' _ _ _ hd hc he =>
  obtain ⟨c1, c2, c3⟩ := hc.ec h.ec h.ok hkeys
  have hi : EI N B ε' := ⟨hc.ok3 h.ok, c1, hc.el h.el, Nat.le_trans hc.pot h.pot⟩
  obtain ⟨a1, a2, a3⟩ := hi.app (kd := kd) (tx := tx) (pv := pv) (nx := nx) (data := data) (c := c) hB (hfit hc)
  refine .inl ⟨rfl, ?_, a1.more (by omega), fun m => by rw [a2, c2]⟩
  rcases a3 with a3 | a3 | a3
  ·exact absurd a3.1 he
  ·exact .inl a3
  ·exact .inr a3.1
 | put c ε' e ε'' _ _ _ hd hc ha hp =>
  obtain ⟨c1, c2, c3⟩ := hc.ec h.ec h.ok hkeys
  have hi : EI N B ε' := ⟨hc.ok3 h.ok, c1, hc.el h.el, Nat.le_trans hc.pot h.pot⟩
  obtain ⟨a1, a2, a3⟩ := hi.app (kd := kd) (tx := tx) (pv := pv) (nx := nx) (data := data) (c := c) hB (hfit hc)
  obtain ⟨p1, p2, p3⟩ := hp.ec a1.ec a1.ok hn hkeys
  have hl : (keysS now).length ≤ N := by
   have := hn.len
   rw [keysS, (srtI_perm _).length_eq, List.length_map]; exact this
  have hpt := hp.pot a1.ok
  have hp0 := a1.pot
  refine .inr ⟨rfl, p2, ⟨hp.ok3 a1.ok, p1, ?_, by omega⟩, fun m => ?_⟩
  ·have := hp.el a1.el
   exact ⟨this.log, this.cert, Nat.le_trans this.size (Nat.mul_le_mul_right _ (by omega))⟩
  ·rw [if_pos p2, p3]
   by_cases hm : m ∈ keysS now
   ·rw [if_pos hm]
    cases hq : lookL m now with
    | some b => rfl
    | none => exact absurd (keysS_mem.1 hm) (lookL_none.1 hq)
   ·rw [if_neg hm, a2, c2]
    have : lookL m now = none := lookL_none.2 fun hq => hm (keysS_mem.2 hq)
    rw [this]
end Go.Proofs.YtconhghphklfjaaGreat.Am
