/- Whatever groups are done and dropped, written out and checkpointed between, each page is as the groups that were done made it; the conditions are those of the given statement, for arguments that a machine can hold. Part 40 of 49. -/
import Derived.Test.YtconhghphklfjaaGreatP39
namespace Go.Proofs.YtconhghphklfjaaGreat.Am
open Go
theorem RgR.fit {pg : Int} {was now : List Nat} {i : Nat} {l : List Chg} (hr : RgR pg was now i l) (hn : now.length = 512) (h0 : 0 ≤ pg) (h1 : pg < 65536) : ∀ c ∈ l, c.Ok ∧ c.b.length ≤ 512 := by
 induction hr with
 | done i h => intro c hc; cases hc
 | skip i l h he hr ih => exact ih
 | take i e l h2 h3 hr ih =>
  intro c hc
  rcases List.mem_cons.1 hc with rfl | hc
  ·have hl : ((now.take e).drop i).length = e - i := by simp; omega
   refine ⟨⟨h0, h1, by simp, by simp only; omega, by simp only [hl]; omega, by simp⟩, by simp only [hl]; omega⟩
  ·exact ih c hc
theorem RgF.fit {pg : Int} {was now : List Nat} {l : List Chg} (hr : RgF pg was now l) (hn : now.length = 512) (h0 : 0 ≤ pg) (h1 : pg < 65536) : ∀ c ∈ l, c.Ok ∧ c.b.length ≤ 512 := by
 obtain ⟨m, h2, rfl⟩ := hr
 split
 ·intro c hc
  rw [List.mem_singleton.1 hc]
  exact ⟨⟨h0, h1, by simp, by simp, by simp, by simp⟩, by simp⟩
 ·exact h2.fit hn h0 h1
theorem ChR.fit {now : List (Int × List Nat)} {l : List Int} {ε ε' : Eng} {e : Int} {cs : List Chg} (hr : ChR now l ε e cs ε') (hnow : ∀ x ∈ now, x.2.length = 512) (hl : ∀ n ∈ l, 0 ≤ n ∧ n < 65536) : ∀ c ∈ cs, c.Ok ∧ c.b.length ≤ 512 := by
 induction hr with
 | nil ε => intro c hc; cases hc
 | err n l ε e b ε' hr he => intro c hc; cases hc
 | part n l ε was b ε' c e cs ε'' hr hb hd hc hcl ht ih =>
  intro x hx
  have hn := hl n List.mem_cons_self
  rcases List.mem_append.1 hx with hx | hx
  ·exact hc.fit (hnow _ (lookL_mem hb)) hn.1 hn.2 x hx
  ·exact ih (fun m hm => hl m (List.mem_cons_of_mem _ hm)) x hx
 | whole n l ε was b ε' e cs ε'' hr hb hd ht ih =>
  intro x hx
  have hn := hl n List.mem_cons_self
  have hb := hnow _ (lookL_mem hb)
  rcases List.mem_cons.1 hx with rfl | hx
  ·exact ⟨⟨hn.1, hn.2, by simp, by simp, by simp only at hb ⊢; omega, fun _ => ⟨rfl, hb⟩⟩, by simp only at hb ⊢; omega⟩
  ·exact ih (fun m hm => hl m (List.mem_cons_of_mem _ hm)) x hx
theorem digits_le : ∀ (f n : Nat), (digits f n).length ≤ f + 1 := by
 intro f
 induction f with
 | zero => intro n; simp [digits]
 | succ f ih =>
  intro n
  unfold digits
  split
  ·simp
  ·have := ih (n / 128)
   simp only [List.length_cons]
   omega
theorem enc_le {c : Chg} (hc : c.b.length ≤ 512) : (encC c).length ≤ 543 := by
 have h1 := digits_le 9 c.page.toNat
 have h2 := digits_le 9 c.pos.toNat
 have h3 := digits_le 9 c.b.length
 simp only [encC, List.length_append, List.length_cons, List.length_nil]
 omega
theorem encs_le : ∀ {l : List Chg}, (∀ c ∈ l, c.b.length ≤ 512) → (l.flatMap encC).length ≤ 543 * l.length := by
 intro l
 induction l with
 | nil => intro _; simp
 | cons c l ih =>
  intro h
  have h1 := enc_le (h c List.mem_cons_self)
  have h2 := ih fun x hx => h x (List.mem_cons_of_mem _ hx)
  simp only [List.flatMap_cons, List.length_append, List.length_cons]
  omega
theorem chs_fit {l : List Chg} {tx pv nx : Nat} {data : List Nat} (hl : l.length ≤ 33554432) (h : ∀ c ∈ l, c.Ok ∧ c.b.length ≤ 512) (htx : tx < 18446744073709551616) (hpv : pv < 18446744073709551616) (hnx : nx < 18446744073709551616) (hd : data.length ≤ 35184372088832) : RecFit tx pv nx data l := by
 have h2 := encs_le fun c hc => (h c hc).2
 refine ⟨⟨by omega, fun c hc => by have := (h c hc).2; omega, fun c hc => ?_⟩, htx, hpv, hnx, by omega⟩
 have := (h c hc).1
 simp only [Chg.Ok] at this
 omega
theorem chs_good {l : List Chg} {kd : Int} (hk : 1 ≤ kd ∧ kd ≤ 9) (h : ∀ c ∈ l, c.Ok ∧ c.b.length ≤ 512) : goodR kd l = true := by
 simp only [goodR, Bool.and_eq_true, decide_eq_true_eq, List.all_eq_true]
 exact ⟨hk, fun c hc => (h c hc).1⟩
inductive DnR (ε : Eng) (now : List (Int × List Nat)) (kd : Int) (tx pv nx : Nat) (data : List Nat) (nch : Nat) : Nat → Int → Bool → Eng → Prop where
 | arg (h : ¬(1 ≤ kd ∧ kd ≤ 7) ∨ 0 < nch) : DnR ε now kd tx pv nx data nch 0 1 false ε
 | dead (h1 : 1 ≤ kd) (h2 : kd ≤ 7) (h3 : nch = 0) (h : ε.2.2.dead = true) : DnR ε now kd tx pv nx data nch 0 9 false ε
 | chg (e : Int) (c : List Chg) (ε' : Eng) (h1 : 1 ≤ kd) (h2 : kd ≤ 7) (h3 : nch = 0) (h : ε.2.2.dead = false) (hc : ChR now (keysS now) ε e c ε') (he : e ≠ 0) : DnR ε now kd tx pv nx data nch 0 e false ε'
 | app (c : List Chg) (ε' : Eng) (h1 : 1 ≤ kd) (h2 : kd ≤ 7) (h3 : nch = 0) (h : ε.2.2.dead = false) (hc : ChR now (keysS now) ε 0 c ε') (he : (appendLD ε'.2 kd tx pv nx data c).1.2 ≠ 0) : DnR ε now kd tx pv nx data nch 0 (appendLD ε'.2 kd tx pv nx data c).1.2 false (ε'.1, (appendLD ε'.2 kd tx pv nx data c).2)
 | put (c : List Chg) (ε' : Eng) (e : Int) (ε'' : Eng) (h1 : 1 ≤ kd) (h2 : kd ≤ 7) (h3 : nch = 0) (h : ε.2.2.dead = false) (hc : ChR now (keysS now) ε 0 c ε') (ha : (appendLD ε'.2 kd tx pv nx data c).1.2 = 0) (hp : PtR now (appendLD ε'.2 kd tx pv nx data c).1.1 (keysS now) (ε'.1, (appendLD ε'.2 kd tx pv nx data c).2) e ε'') :
   DnR ε now kd tx pv nx data nch (if e = 0 then (appendLD ε'.2 kd tx pv nx data c).1.1 else 0) e true ε''
end Go.Proofs.YtconhghphklfjaaGreat.Am
namespace Go.Proofs.YtconhghphklfjaaGreat.Am
open Go
structure LgS (ε ε' : Eng) : Prop where
 base : ε'.2.1.base = ε.2.1.base
 b : ε'.2.1.b = ε.2.1.b
 starts : ε'.2.1.starts = ε.2.1.starts
 check : ε'.2.1.check = ε.2.1.check
 log : ε'.2.2.log = ε.2.2.log
 room : ε'.2.2.room = ε.2.2.room
 pages : ε'.2.2.pages = ε.2.2.pages
theorem LgS.refl (ε : Eng) : LgS ε ε := ⟨rfl, rfl, rfl, rfl, rfl, rfl, rfl⟩
theorem LgS.trans {a b c : Eng} (x : LgS a b) (y : LgS b c) : LgS a c :=
 ⟨y.base.trans x.base, y.b.trans x.b, y.starts.trans x.starts, y.check.trans x.check, y.log.trans x.log, y.room.trans x.room, y.pages.trans x.pages⟩
theorem forceF_log {δ : Dk} : δ.forceF.2.log = δ.log ∧ δ.forceF.2.room = δ.room ∧ δ.forceF.2.pages = δ.pages := by
 unfold Dk.forceF
 split
 ·exact ⟨rfl, rfl, rfl⟩
 ·split <;> exact ⟨rfl, rfl, rfl⟩
theorem writeF_log {δ : Dk} {n : Int} {b : List Nat} : (δ.writeF n b).2.log = δ.log ∧ (δ.writeF n b).2.room = δ.room ∧ (δ.writeF n b).2.pages = δ.pages := by
 unfold Dk.writeF
 split
 ·exact ⟨rfl, rfl, rfl⟩
 ·split
  ·exact ⟨rfl, rfl, rfl⟩
  ·split <;> exact ⟨rfl, rfl, rfl⟩
theorem forceLD_same {π : Pl} {x : LD} {n : Nat} : LgS (π, x) (π, (forceLD x n).2) := by
 unfold forceLD
 split
 ·exact LgS.refl _
 ·split
  ·exact ⟨rfl, rfl, rfl, rfl, forceF_log.1, forceF_log.2.1, forceF_log.2.2⟩
  ·exact ⟨rfl, rfl, rfl, rfl, forceF_log.1, forceF_log.2.1, forceF_log.2.2⟩
theorem outF_same {ε : Eng} {i : Nat} : LgS ε (outF ε i).2 := by
 unfold outF
 split
 ·exact LgS.refl _
 ·rename_i f hf
  split
  ·exact LgS.refl _
  ·split
   ·exact LgS.refl _
   ·have h1 := forceLD_same (π := ε.1) (x := ε.2) (n := atL f.b 4 8)
    have h2 := writeF_log (δ := (forceLD ε.2 (atL f.b 4 8)).2.2) (n := f.page) (b := f.b)
    split
    ·exact ⟨h1.base, h1.b, h1.starts, h1.check, h1.log, h1.room, h1.pages⟩
    ·split
     ·exact ⟨h1.base, h1.b, h1.starts, h1.check, h2.1.trans h1.log, h2.2.1.trans h1.room, h2.2.2.trans h1.pages⟩
     ·exact ⟨h1.base, h1.b, h1.starts, h1.check, h2.1.trans h1.log, h2.2.1.trans h1.room, h2.2.2.trans h1.pages⟩
theorem LgS.of {π : Pl} {ε ε' : Eng} (h : LgS (π, ε.2) ε') : LgS ε ε' := ⟨h.base, h.b, h.starts, h.check, h.log, h.room, h.pages⟩
theorem LgS.to {π : Pl} {ε ε' : Eng} (h : LgS ε ε') : LgS ε (π, ε'.2) := ⟨h.base, h.b, h.starts, h.check, h.log, h.room, h.pages⟩
theorem PinR.same {ε ε' : Eng} {n e : Int} {b : List Nat} (hr : PinR ε n e b ε') : LgS ε ε' := by
 cases hr with
 | arg _ => exact LgS.refl _
 | hit i f h1 h2 hl hf => exact (LgS.refl ε).to
 | out π' i f h1 h2 hl hn hf hh he => exact outF_same.of
 | read π' i f h1 h2 hl hn hf hh he hr => exact outF_same.of.to
 | bad π' i f h1 h2 hl hn hf hh he hr hc => exact outF_same.of.to
 | load π' i f h1 h2 hl hn hf hh he hr hc => exact outF_same.of.to
theorem RdR.same {ε ε' : Eng} {n e : Int} {b : List Nat} (hr : RdR ε n e b ε') : LgS ε ε' := by
 cases hr with
 | dead _ => exact LgS.refl _
 | pin e b ε' hd hr he => exact hr.same
 | unpin b ε' hd hr he => exact hr.same.to
 | read b ε' hd hr he => exact hr.same.to
theorem ChR.same {now : List (Int × List Nat)} {l : List Int} {ε ε' : Eng} {e : Int} {cs : List Chg} (hr : ChR now l ε e cs ε') : LgS ε ε' := by
 induction hr with
 | nil ε => exact LgS.refl _
 | err n l ε e b ε' hr he => exact hr.same
 | part n l ε was b ε' c e cs ε'' hr hb hd hc hl ht ih => exact hr.same.trans ih
 | whole n l ε was b ε' e cs ε'' hr hb hd ht ih => exact hr.same.trans ih
theorem rise_len {m : Nat} : ∀ {l : List Nat}, l.Pairwise (· < ·) → (∀ s ∈ l, s < m) → l.length ≤ m := by
 intro l hp hl
 have key : ∀ (l : List Nat) (k : Nat), l.Pairwise (· < ·) → (∀ s ∈ l, k ≤ s ∧ s < m) → k + l.length ≤ m ∨ l = [] := by
  intro l
  induction l with
  | nil => intro k _ _; exact .inr rfl
  | cons x l ih =>
   intro k hp hl
   simp only [List.pairwise_cons] at hp
   have hx := hl x List.mem_cons_self
   rcases ih (x + 1) hp.2 (fun s hs => ⟨hp.1 s hs, (hl s (List.mem_cons_of_mem _ hs)).2⟩) with h | rfl
   ·left; simp only [List.length_cons]; omega
   ·left; simp; omega
 rcases key l 0 hp (fun s hs => ⟨Nat.zero_le _, hl s hs⟩) with h | rfl
 ·omega
 ·simp
theorem appendLD_cases (x : LD) (kd : Int) (tx pv nx : Nat) (data : List Nat) (c : List Chg) :
  (∃ e : Int, e ≠ 0 ∧ ((e = 1 ∧ goodR kd c = false) ∨ (e = 2 ∧ 1048576 < (bodyG kd tx pv nx data c).length) ∨ (e = 9 ∧ x.2.dead = true) ∨ (e = 7 ∧ x.2.room < x.2.log.length + (nextRec x.1 kd tx pv nx data c).length)) ∧ appendLD x kd tx pv nx data c = ((0, e), x)) ∨
  (x.2.dead = false ∧ x.2.fuse = 0 ∧ appendLD x kd tx pv nx data c = ((0, 9), (x.1, { x.2.die with tail := nextRec x.1 kd tx pv nx data c }))) ∨
  (goodR kd c = true ∧ (bodyG kd tx pv nx data c).length ≤ 1048576 ∧ x.2.dead = false ∧ x.2.log.length + (nextRec x.1 kd tx pv nx data c).length ≤ x.2.room ∧ x.2.fuse ≠ 0 ∧
   appendLD x kd tx pv nx data c = ((x.1.base + x.1.b.length, 0), (x.1.app (nextRec x.1 kd tx pv nx data c), { x.2.cnt with log := x.2.log ++ nextRec x.1 kd tx pv nx data c }))) := by
 by_cases hg : goodR kd c = false
 ·exact .inl ⟨1, by decide, .inl ⟨rfl, hg⟩, by rw [appendLD, if_pos hg]⟩
 ·by_cases hb : 1048576 < (bodyG kd tx pv nx data c).length
  ·exact .inl ⟨2, by decide, .inr (.inl ⟨rfl, hb⟩), by rw [appendLD, if_neg hg, if_pos hb]⟩
  ·by_cases hd : x.2.dead = true
   ·have e : x.2.appendF (nextRec x.1 kd tx pv nx data c) = (9, x.2) := by rw [Dk.appendF, if_pos hd]
    exact .inl ⟨9, by decide, .inr (.inr (.inl ⟨rfl, hd⟩)), by rw [appendLD, if_neg hg, if_neg hb, e, if_pos (by simp)]⟩
   ·by_cases hr : x.2.room < x.2.log.length + (nextRec x.1 kd tx pv nx data c).length
    ·have e : x.2.appendF (nextRec x.1 kd tx pv nx data c) = (7, x.2) := by rw [Dk.appendF, if_neg hd, if_pos hr]
     exact .inl ⟨7, by decide, .inr (.inr (.inr ⟨rfl, hr⟩)), by rw [appendLD, if_neg hg, if_neg hb, e, if_pos (by simp)]⟩
    ·by_cases hf : x.2.fuse = 0
     ·have e : x.2.appendF (nextRec x.1 kd tx pv nx data c) = (9, { x.2.die with tail := nextRec x.1 kd tx pv nx data c }) := by rw [Dk.appendF, if_neg hd, if_neg hr, if_pos hf]
      exact .inr (.inl ⟨by simpa using hd, hf, by rw [appendLD, if_neg hg, if_neg hb, e, if_pos (by simp)]⟩)
     ·have e : x.2.appendF (nextRec x.1 kd tx pv nx data c) = (0, { x.2.cnt with log := x.2.log ++ nextRec x.1 kd tx pv nx data c }) := by rw [Dk.appendF, if_neg hd, if_neg hr, if_neg hf]
      exact .inr (.inr ⟨by simpa using hg, by omega, by simpa using hd, by omega, hf, by rw [appendLD, if_neg hg, if_neg hb, e, if_neg (by simp)]⟩)
theorem appendLD_ok {x : LD} {kd : Int} {tx pv nx : Nat} {data : List Nat} {c : List Chg} (hμ : x.1.Ok) (hδ : x.2.Ok) (hs : x.1.b = x.2.log) (hz : x.1.base + x.1.b.length + 1048584 ≤ 1099511627776) :
  (appendLD x kd tx pv nx data c).2.1.Ok ∧ (appendLD x kd tx pv nx data c).2.2.Ok ∧ (appendLD x kd tx pv nx data c).2.1.b = (appendLD x kd tx pv nx data c).2.2.log ∧ (appendLD x kd tx pv nx data c).2.1.base = x.1.base ∧ (appendLD x kd tx pv nx data c).2.1.b.length ≤ x.1.b.length + 1048584 ∧
  (appendLD x kd tx pv nx data c).2.2.waiting = x.2.waiting ∧ (appendLD x kd tx pv nx data c).1.1 < 1099511627776 := by
 have hlen : (nextRec x.1 kd tx pv nx data c).length = 8 + (bodyG kd tx pv nx data c).length := recG_len _ _
 rcases appendLD_cases x kd tx pv nx data c with ⟨e, _, _, h⟩ | ⟨hd, hf, h⟩ | ⟨hg, hb, hd, hfit, hf, h⟩
 ·rw [h]; exact ⟨hμ, hδ, hs, rfl, Nat.le_add_right _ _, rfl, by simp⟩
 ·rw [h]; exact ⟨hμ, ⟨hδ.fuse, hδ.len, hδ.room, hδ.now, hδ.pages, hδ.certain, hδ.many⟩, hs, rfl, Nat.le_add_right _ _, rfl, by simp⟩
 ·rw [h]
  generalize nextRec x.1 kd tx pv nx data c = rc at hlen hfit
  have hroom2 := hδ.room
  have hsl : x.1.b.length = x.2.log.length := by rw [hs]
  have hl : (x.1.b ++ rc).length = x.1.b.length + rc.length := List.length_append
  have hl2 : (x.2.log ++ rc).length = x.2.log.length + rc.length := List.length_append
  refine ⟨⟨?_, ?_, ?_, ?_, ?_, ?_, hμ.check⟩, ⟨hδ.cnt.fuse, ?_, hδ.room, hδ.now, hδ.pages, ?_, hδ.many⟩, ?_, rfl, ?_, rfl, ?_⟩
  ·show x.1.base + (x.1.b ++ rc).length ≤ _; omega
  ·have h1 := rise_len hμ.rise hμ.low
   show (x.1.starts ++ [x.1.b.length]).length ≤ _
   simp only [List.length_append, List.length_cons, List.length_nil]; omega
  ·intro s hm
   show s < (x.1.b ++ rc).length
   rcases List.mem_append.1 (show s ∈ x.1.starts ++ [x.1.b.length] from hm) with hm | hm
   ·have := hμ.low s hm; omega
   ·rw [List.mem_singleton.1 hm]; omega
  ·show (x.1.starts ++ [x.1.b.length]).Pairwise (·< ·)
   rw [List.pairwise_append]
   refine ⟨hμ.rise, List.pairwise_singleton _ _, fun a ha b hb => ?_⟩
   rw [List.mem_singleton.1 hb]
   exact hμ.low a ha
  ·have := hμ.forced
   show x.1.forced ≤ (x.1.b ++ rc).length; omega
  ·show (x.1.b ++ rc).length ≤ _; omega
  ·show (x.2.log ++ rc).length ≤ _; omega
  ·have := hδ.certain
   show x.2.certain ≤ (x.2.log ++ rc).length; omega
  ·show x.1.b ++ rc = x.2.log ++ rc; rw [hs]
  ·show (x.1.b ++ rc).length ≤ _; omega
  ·show x.1.base + x.1.b.length < _; omega
end Go.Proofs.YtconhghphklfjaaGreat.Am
namespace Go.Proofs.YtconhghphklfjaaGreat.Am
open Go
theorem wf_i64 {n : Int} (h1 : 0 ≤ n) (h2 : n < 4294967296) : (Lit.int .i64 n).wf = true := by
 simp only [Lit.wf, Bool.and_eq_true, decide_eq_true_eq]
 have e1 : IntKind.min .i64 = -9223372036854775808 := rfl
 have e2 : IntKind.max .i64 = 9223372036854775807 := rfl
 omega
theorem rcC_beq {kd : Int} {tx pv nx : Nat} {dt ch : V} (hd : dt.beq dt = true) (hc : ch.beq ch = true) : (V.agg (rcC kd tx pv nx dt ch)).beq (V.agg (rcC kd tx pv nx dt ch)) = true := by
 simp only [rcC, V.beq, V.beqL, hd, hc, ikBeq_self, intBeq_dec, decide_true, Bool.and_self, cond_true]
section
variable {told : Nat → Option (List V → H → Option (V × H))} {h : H} {S : List Assn} {X Y : Assn} {r k q p fid a g chk : Nat} {op v x u wh di : V} {l b was data data0 : List Nat} {now : List (Int × List Nat)} {over : Bool} {ε : Eng}
theorem done_ct (hT : W told) {kd : Int} {tx pv nx nch : Nat} {dt ch : V} {ccs : List V} (s : Sat h (isGp g a now false :: isSt a p q r (.ptr g 0) data0 chk :: isPl r p q ε.1 :: isLg q p ε.2.1 :: isDk p ε.2.2 :: X :: .arr 4 ch ccs :: S)) (hX : Ent X (rdB dt data)) (hcc : ccs.length = nch * 4) (hε : EOk3 ε) (hw : pot ε + 65536 ≤ 268435456)
  (hnow : ∀ e ∈ now, e.2.length = 512) (hm : now.length ≤ 65536) (hk : ∀ n ∈ now.map (·.1), 0 ≤ n ∧ n < 65536) (htx : tx < 18446744073709551616) (hpv : pv < 18446744073709551616) (hnx : nx < 18446744073709551616) (hd : data.length ≤ 35184372088832) (hlog : ε.2.1.b = ε.2.2.log) (hz : ε.2.1.base + ε.2.1.b.length + 1048584 ≤ 1099511627776) :
  Call ⟨Tryz.prog, told⟩ 17 [.ptr g 0, .agg (rcC kd tx pv nx dt ch)] h fun v h' => ∃ lsn e cl ε', DnR ε now kd tx pv nx data nch lsn e cl ε' ∧ v = .tup [.int .u64 (lsn : Int), .int .i64 e] ∧
   Sat h' (isGp g a now cl :: isSt a p q r (cond cl .ptr0 (.ptr g 0)) data0 chk :: isPl r p q ε'.1 :: isLg q p ε'.2.1 :: isDk p ε'.2.2 :: X :: S) := by
 have hwf : ∀ n ∈ now.map (·.1), (Lit.int .i64 n).wf = true := fun n hn => by
  have := hk n hn
  exact wf_i64 (by omega) (by omega)
 have hch := s.arrV (j := 6) rfl
 have hdt := s.viewX (k := 5) rfl hX
 have hst := rcC_st (kd := kd) (tx := tx) (pv := pv) (nx := nx) hdt.cells.2 hch.2.1
 have hlen := s.arrLen (n := nch) (j := 6) rfl hcc (by decide) Tryz.underlying38
 have s0 := s
 obtain ⟨nv, s⟩ := isGp_iff.1 s
 refine Call.of_wp (hT.free _ rfl) Tryz.func17 rfl rfl (zg rfl (WPs.newS s rfl rfl rfl (o_box rfl hst) ?_))
 intro p1 h s
 dsimp only [V.cells] at s
 have s : Sat h (pt p1 (.cells 6 (rcC kd tx pv nx dt ch) false) :: _) := s
 have hlen := s.arrLen (n := nch) (j := 8) rfl hcc (by decide) Tryz.underlying38
 refine za rfl (za rfl (zv (zg rfl (zm rfl (zn rfl (zf rfl (fa88_0 _ _) (zl rfl (by exact s.ld (k := 1) rfl ag24 rfl) ?_)))))))
 refine za rfl (zv (zw (WP.block (zg rfl (zm rfl (zn rfl (zf rfl (fa88_2 _ _) (WPs.opF rfl rfl rfl (o_load rfl (by exact s.ld (k := 1) rfl ag4 rfl)) (rfl) ?_))))))))
 refine za rfl (zv (zj rfl (zg rfl (zf rfl (fa40_0 _ _) (zl rfl (by exact s.ld (k := 0) rfl ag3 rfl) ?_)))))
 have fin : ∀ e : Int, Sat h (isGp g a now false :: isSt a p q r (.ptr g 0) data0 chk :: isPl r p q ε.1 :: isLg q p ε.2.1 :: isDk p ε.2.2 :: X :: S) := fun e => ((isGp_iff.2 ⟨nv, s.bringS [1, 1]⟩).del 7).del 1
 refine WPs.opB rfl rfl rfl (o_bin rfl rfl bLss) ?_ ?_
 ·intro hq
  have hq : kd < 1 := by simpa using hq
  refine zm rfl (zx rfl (zx rfl (zx rfl (zq rfl (zm rfl (zx rfl (zx rfl (zx rfl (zx rfl (zq rfl (za rfl (zv (zi rfl (zg rfl (za rfl (za rfl (zv ?_)))))))))))))))))
  refine WP.ret ⟨trivial, _, rfl, ?_⟩
  exact ⟨0, 1, false, ε, .arg (.inl (by omega)), rfl, fin 0⟩
 ·intro hq
  have hq : 1 ≤ kd := by simp at hq; omega
  refine zm rfl (zf rfl (fa40_0 _ _) (zl rfl (by exact s.ld (k := 0) rfl ag3 rfl) ?_))
  refine WPs.opB rfl rfl rfl (o_bin rfl rfl bGtr) ?_ ?_
  ·intro hq2
   have hq2 : 7 < kd := by simpa using hq2
   refine zp rfl (zm rfl (zx rfl (zx rfl (zx rfl (zx rfl (zq rfl (za rfl (zv (zi rfl (zg rfl (za rfl (za rfl (zv ?_)))))))))))))
   refine WP.ret ⟨trivial, _, rfl, ?_⟩
   exact ⟨0, 1, false, ε, .arg (.inl (by omega)), rfl, fin 0⟩
  ·intro hq2
   have hq2 : kd ≤ 7 := by simp at hq2; omega
   refine zp rfl (zm rfl (zf rfl (fa40_5 _ _) (zl rfl (by exact s.ld (k := 0) rfl ag38 rfl) ?_)))
   refine zo rfl (o_len rfl rfl rfl hlen) ?_
   refine WPs.opB rfl rfl rfl (o_bin rfl rfl bGtr) ?_ ?_
   ·intro hq3
    have hq3 : 0 < nch := by simp at hq3; omega
    refine zp rfl (za rfl (zv (zi rfl (zg rfl (za rfl (za rfl (zv ?_)))))))
    refine WP.ret ⟨trivial, _, rfl, ?_⟩
    exact ⟨0, 1, false, ε, .arg (.inr hq3), rfl, fin 0⟩
   ·intro hq3
    have hq3 : nch = 0 := by simp at hq3; omega
    obtain ⟨dv, s⟩ := isSt_iff.1 (s.bringS [3])
    dsimp only [bringA, getA, delA] at s
    refine zp rfl (za rfl (zv (zj rfl (zg rfl (zm rfl (zn rfl (zf rfl (fa85_0 _ _) (zl rfl (by exact s.ld (k := 0) rfl ag23 rfl) ?_))))))))
    refine WPs.call rfl rfl rfl rfl rfl rfl rfl (dDead_ct hT (s.bringS [7])) ?_
    rintro v h ⟨rfl, rfl⟩
    refine za rfl (zv ?_)
    cases hdd : ε.2.2.dead with
    | true =>
     refine zi rfl (zg rfl (za rfl (za rfl (zv ?_))))
     refine WP.ret ⟨trivial, _, rfl, ?_⟩
     have s9 := isGp_iff.2 ⟨nv, (isSt_iff.2 ⟨dv, s⟩).bringS [2, 2]⟩
     dsimp only [bringA, getA, delA] at s9
     exact ⟨0, 9, false, ε, .dead hq hq2 hq3 hdd, rfl, (s9.del 7).del 2⟩
    | false =>
     refine zj rfl (WP.skip (zg rfl (za rfl (zv (zw (zg rfl (zm rfl ?_)))))))
     have s9 := isGp_iff.2 ⟨nv, (isSt_iff.2 ⟨dv, s⟩).bringS [2, 2]⟩
     dsimp only [bringA, getA, delA] at s9
     have s := s9.bringS [0, 0, 1, 1, 1]
     dsimp only [bringA, getA, delA] at s
     refine WPs.call rfl rfl rfl rfl rfl rfl rfl (changes_ct hT s hε (by omega) hnow hm hwf) ?_
     rintro v h ⟨e, c, ε', hc, (⟨he, rfl, s⟩ | ⟨rfl, hcl, av, cs, rfl, s⟩)⟩
     ·refine WPs.op rfl rfl rfl (o_move rfl) ?_
      refine ze rfl (ze rfl (zf rfl (fa40_5 _ _) ?_))
      refine WPs.stS rfl rfl rfl rfl rfl (by exact s.st1 (k := 5) rfl sz38 rfl (by decide) rfl rfl) (fun h s => ?_)
      dsimp only [rcC, Nat.reduceAdd, List.set, setA] at s
      refine za rfl (zv (zg rfl (zm rfl (WPs.opT rfl rfl rfl (o_bin rfl rfl bNeq) (by simp; exact he) ?_))))
      refine zv (zi rfl (zg rfl (zm rfl (za rfl (za rfl (zv ?_))))))
      refine WP.ret ⟨trivial, _, rfl, ?_⟩
      exact ⟨0, e, false, ε', .chg e c ε' hq hq2 hq3 hdd hc he, rfl, (s.del 7).del 5⟩
     ·have hav := s.arrV (j := 0) rfl
      have hc3 := hc.ok3 hε
      have hcp := hc.pot
      have hsm := hc.same
      have hap := appendLD_ok (x := ε'.2) (kd := kd) (tx := tx) (pv := pv) (nx := nx) (data := data) (c := c) hc3.ok.lg hc3.ok.dk (by rw [hsm.b, hsm.log]; exact hlog) (by rw [hsm.base, hsm.b]; exact hz)
      have hfit := hc.fit hnow fun n hn => hk n ((srtI_perm _).mem_iff.1 hn)
      refine zm rfl (ze rfl (ze rfl (zf rfl (fa40_5 _ _) (WPs.stS rfl rfl rfl rfl rfl (s.st1 (k := 7) rfl sz38 rfl (show 0 + 5 < 6 by decide) hav.1 hav.2.1) ?_))))
      intro h s
      dsimp only [rcC, Nat.reduceAdd, List.set, setA] at s
      refine za rfl (zv (zg rfl (zm rfl (WPs.opF rfl rfl rfl (o_bin rfl rfl bNeq) (rfl) ?_))))
      obtain ⟨dv, s⟩ := isSt_iff.1 (s.bringS [3])
      dsimp only [bringA, getA, delA] at s
      have s := s.bringS [6, 6, 7, 2, 2, 0, 3]
      dsimp only [bringA, getA, delA] at s
      refine zv (zj rfl (WP.skip (zw ?_)))
      have s0 := s
      have hdtb := beqView hdt
      have hrb := rcC_beq (kd := kd) (tx := tx) (pv := pv) (nx := nx) hdtb hav.2.2
      refine WP.drawn [none, none, none, none, none, none, none, none, none, none, none] rfl (by kernel_rfl) (by kernel_rfl) ?_
      refine zM rfl (zN rfl (zF rfl (fa85_1 _ _) (zL rfl (by exact s.ld (k := 5) rfl ag44 rfl) ?_)))
      refine zL rfl (by exact s.ldA (k := 6) rfl ag40 sz40) ?_
      refine WPt.any rfl rfl rfl rfl (OpR.call rfl rfl rfl rfl (lAppendF (kd := kd) (tx := tx) (pv := pv) (nx := nx) hT s hX (chs_fit hcl hfit htx hpv hnx hd) hc3.ok.lg hc3.ok.dk)) ?_
      rintro v h ⟨rfl, s⟩
      refine zM rfl (zO rfl (o_extract rfl rfl) (zO rfl (o_extract rfl rfl) (zA rfl (zA rfl ?_))))
      refine WPt.nil ⟨⟨trivial, trivial, trivial, trivial, trivial, trivial, trivial, trivial, trivial, trivial, trivial, trivial⟩, ?_⟩
      refine zw (zg rfl (zm rfl ?_))
      have s9 := isSt_iff.2 ⟨dv, s.bringS [5, 6]⟩
      dsimp only [bringA, getA, delA] at s9
      have s := ((((s9.bringS [7, 0, 6, 0, 0, 0]).del 9).del 8).del 7).del 6
      dsimp only [bringA, getA, delA] at s
      by_cases he : (appendLD ε'.2 kd tx pv nx data c).1.2 = 0
      ·skip
       refine WPs.opF rfl rfl rfl (o_bin rfl rfl bNeq) (by simp; exact he) ?_
       refine zv (zj rfl (WP.skip (zg rfl (zm rfl (WPs.call rfl rfl rfl rfl rfl rfl rfl (gclose_ct hT s) ?_)))))
       rintro v h ⟨rfl, s⟩
       obtain ⟨nv, s⟩ := isGp_iff.1 s
       obtain ⟨nid, rfl⟩ := mapV_v s (j := 1) rfl
       refine zv (zw (zg rfl (zm rfl (zn rfl (zf rfl (fa88_1 _ _) (zl rfl (by exact s.ld (k := 0) rfl ag86 rfl) ?_))))))
       refine WPs.call rfl rfl rfl rfl rfl rfl rfl (keysD_ct hT s) ?_
       rintro v h ⟨kb, rfl, s⟩
       refine WPs.call rfl rfl rfl rfl rfl rfl rfl (sorted_ct hT (s.bringS [0, 1]) (by decide) (by omega) hwf) ?_
       intro kv h s
       dsimp only [bringA, getA, delA] at s
       have hl : (keysS now).length = now.length := by rw [keysS, (srtI_perm _).length_eq, List.length_map]
       refine zo rfl (o_len rfl rfl rfl (s.arrLen (n := (keysS now).length) (j := 0) rfl (by simp [intsV]) (by decide) Tryz.underlying98)) ?_
       refine zm rfl (zv (WP.block ?_))
       obtain ⟨nid', es, clock, hnid, hb, hnd, s⟩ := mapV_open.1 (s.bringS [2])
       injection hnid with hnid
       subst hnid
       dsimp only [bringA, getA, delA] at s
       obtain ⟨dv, s⟩ := isSt_iff.1 (s.bringS [5])
       dsimp only [bringA, getA, delA] at s
       have s := s.bringS [6, 2, 2, 0, 3, 3, 3, 1]
       dsimp only [bringA, getA, delA] at s
       refine done_loop (op := .ptr0) (dv := dv) hT (ks := keysS now) (now := now) (lsn := (appendLD ε'.2 kd tx pv nx data c).1.1) (by omega) (fun n hn => ?_) hnow (keysS now).length 0 (ε'.1, (appendLD ε'.2 kd tx pv nx data c).2) _ _ _ (by omega) ?_ ?_ s ⟨rfl, rfl, rfl, rfl, rfl, rfl, trivial⟩ (fun e ε'' E' h' hp he' l4 l5 s' => ?_) (fun ε'' E' h' hp hE' s' => ?_)
       ·have : n ∈ now.map (·.1) := (srtI_perm _).mem_iff.1 hn
        cases hq : lookL n now with
        | some _ => rfl
        | none => exact absurd this (lookL_none.1 hq)
       ·exact ⟨⟨hc3.ok.pl, hap.1, hap.2.1⟩, hc3.pins, hc3.full⟩
       ·have e1 : pot (ε'.1, (appendLD ε'.2 kd tx pv nx data c).2) = pot ε' := by simp only [pot, hap.2.2.2.2.2.1]
        rw [e1, hl]; omega
       ·rw [List.drop_zero] at hp
        have e4 : look E' 4 = some (.int .u64 ((0 : Nat) : Int)) := l4
        refine ⟨trivial, _, res2 e4 l5, 0, e, true, ε'', ?_, rfl, ?_⟩
        ·have := DnR.put (data := data) c ε' e ε'' hq hq2 hq3 hdd hc he hp
         rwa [if_neg he'] at this
        ·have s3 := isSt_iff.2 ⟨dv, s'.bringS [3, 6]⟩
         dsimp only [bringA, getA, delA] at s3
         have s4 := mapV_open.2 ⟨nid, es, clock, rfl, hb, hnd, s3.bringS [2, 2]⟩
         dsimp only [bringA, getA, delA] at s4
         exact isGp_iff.2 ⟨.map nid, (s4.bringS [2, 0, 0, 0, 0, 0, 1]).del 7⟩
       ·rw [List.drop_zero] at hp
        have s := s'
        refine WP.has hE' (zg rfl (zm rfl (za rfl (za rfl (zv ?_)))))
        refine WP.ret ⟨trivial, _, rfl, ?_⟩
        refine ⟨_, 0, true, ε'', ?_, rfl, ?_⟩
        ·have := DnR.put (data := data) c ε' 0 ε'' hq hq2 hq3 hdd hc he hp
         exact this
        ·have s3 := isSt_iff.2 ⟨dv, s.bringS [3, 6]⟩
         dsimp only [bringA, getA, delA] at s3
         have s4 := mapV_open.2 ⟨nid, es, clock, rfl, hb, hnd, s3.bringS [2, 2]⟩
         dsimp only [bringA, getA, delA] at s4
         exact isGp_iff.2 ⟨.map nid, (s4.bringS [2, 0, 0, 0, 0, 0, 1]).del 7⟩
      ·skip
       refine WPs.opT rfl rfl rfl (o_bin rfl rfl bNeq) (by simp; exact he) ?_
       refine zv (zi rfl (zg rfl (zm rfl (za rfl (za rfl (zv ?_))))))
       refine WP.ret ⟨trivial, _, rfl, ?_⟩
       exact ⟨0, _, false, _, .app c ε' hq hq2 hq3 hdd hc he, rfl, s⟩
end
end Go.Proofs.YtconhghphklfjaaGreat.Am
