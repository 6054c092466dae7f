/- A group that is over or open, pages that are none and records that may not be are refused, and a record that was done is read back; the conditions are those of the given statement, for arguments that a machine can hold. Part 43 of 44. -/
import Derived.Test.YtconhghphklfjaaGreatE42
namespace Go.Proofs.YtconhghphklfjaaGreat.Am
open Go
structure EL (K : Nat) (x : LD) : Prop where
 log : x.1.b = x.2.log
 cert : x.1.forced ≤ x.2.certain
 size : x.1.base + x.1.b.length ≤ K
theorem EL.force {K : Nat} {x : LD} {n : Nat} (h : EL K x) : EL K (forceLD x n).2 := by
 unfold forceLD Dk.forceF
 split
 ·exact h
 ·by_cases hd : x.2.dead = true
  ·rw [if_pos hd, if_pos (show (9 : Int) ≠ 0 by decide)]; exact h
  ·rw [if_neg hd]
   by_cases h0 : x.2.fuse = 0
   ·rw [if_pos h0, if_pos (show (9 : Int) ≠ 0 by decide)]; exact ⟨h.log, h.cert, h.size⟩
   ·rw [if_neg h0, if_neg (show ¬(0 : Int) ≠ 0 by decide)]; exact ⟨h.log, by show x.1.b.length ≤ x.2.log.length; rw [h.log]; exact Nat.le_refl _, h.size⟩
theorem EL.write {K : Nat} {x : LD} {n : Int} {b : List Nat} (h : EL K x) : EL K (x.1, (x.2.writeF n b).2) := by
 unfold Dk.writeF
 split
 ·exact h
 ·split
  ·exact h
  ·split <;> exact ⟨h.log, h.cert, h.size⟩
theorem EL.out {K : Nat} {ε : Eng} {i : Nat} (h : EL K ε.2) : EL K (outF ε i).2.2 := by
 unfold outF
 split
 ·exact h
 ·split
  ·exact h
  ·split
   ·exact h
   ·split
    ·exact h.force
    ·split
     ·exact h.force.write
     ·exact h.force.write
theorem PinR.el {K : Nat} {ε ε' : Eng} {n e : Int} {b : List Nat} (hr : PinR ε n e b ε') (h : EL K ε.2) : EL K ε'.2 := by
 cases hr with
 | arg hn => exact h
 | hit i f h1 h2 hl hf => exact h
 | out π' i f h1 h2 hl hn hf hh he => exact EL.out (ε := (π', ε.2)) h
 | read π' i f h1 h2 hl hn hf hh he hr => exact EL.out (ε := (π', ε.2)) h
 | bad π' i f h1 h2 hl hn hf hh he hr hc => exact EL.out (ε := (π', ε.2)) h
 | load π' i f h1 h2 hl hn hf hh he hr hc => exact EL.out (ε := (π', ε.2)) h
theorem RdR.el {K : Nat} {ε ε' : Eng} {n e : Int} {b : List Nat} (hr : RdR ε n e b ε') (h : EL K ε.2) : EL K ε'.2 := by
 cases hr with
 | dead hd => exact h
 | pin e b ε' hd hr he => exact hr.el h
 | unpin b ε' hd hr he => exact hr.el h
 | read b ε' hd hr he => exact hr.el h
theorem GRd.el {K : Nat} {ε ε' : Eng} {now : List (Int × List Nat)} {over : Bool} {n e : Int} {b : List Nat} (hr : GRd ε now over n e b ε') (h : EL K ε.2) : EL K ε'.2 := by
 cases hr with
 | arg hn => exact h
 | over _ _ _ => exact h
 | own b h1 h2 _ hl => exact h
 | read e b ε' h1 h2 _ hl hr => exact hr.el h
theorem ChR.el {K : Nat} {now : List (Int × List Nat)} {l : List Int} {ε ε' : Eng} {e : Int} {cs : List Chg} (hr : ChR now l ε e cs ε') : EL K ε.2 → EL K ε'.2 := by
 induction hr with
 | nil ε => exact fun h => h
 | err n l ε e b ε' hr he => exact fun h => hr.el h
 | part n l ε was b ε' c e cs ε'' hr hb hd hc hcl ht ih => exact fun h => ih (hr.el h)
 | whole n l ε was b ε' e cs ε'' hr hb hd ht ih => exact fun h => ih (hr.el h)
theorem PtR.el {K : Nat} {now : List (Int × List Nat)} {lsn : Nat} {l : List Int} {ε ε' : Eng} {e : Int} (hr : PtR now lsn l ε e ε') : EL K ε.2 → EL K ε'.2 := by
 induction hr with
 | nil ε => exact fun h => h
 | pin n l ε e b ε' hr he => exact fun h => hr.el h
 | bad n l ε b0 b ε' hr hb he => exact fun h => hr.el h
 | put n l ε b0 b ε' e ε'' hr hb he ht ih => exact fun h => ih (hr.el h)
structure EI (N B : Nat) (ε : Eng) : Prop where
 ok : EOk3 ε
 ec : EC N ε
 el : EL (B * 1048600) ε.2
 pot : pot ε ≤ B * 65536
theorem EI.more {N B : Nat} {ε : Eng} (h : EI N B ε) {B' : Nat} (hb : B ≤ B') : EI N B' ε :=
 ⟨h.ok, h.ec, ⟨h.el.log, h.el.cert, Nat.le_trans h.el.size (Nat.mul_le_mul_right _ hb)⟩, Nat.le_trans h.pot (Nat.mul_le_mul_right _ hb)⟩
theorem EI.rd {N B : Nat} {ε ε' : Eng} {n e : Int} {b : List Nat} (h : EI N B ε) (hr : RdR ε n e b ε') : EI N B ε' :=
 ⟨hr.ok3 h.ok, (hr.ec h.ec h.ok.pins).1, hr.el h.el, Nat.le_trans hr.pot h.pot⟩
theorem EI.grd {N B : Nat} {ε ε' : Eng} {now : List (Int × List Nat)} {n e : Int} {b : List Nat} (h : EI N B ε) (hr : GRd ε now false n e b ε') : EI N B ε' :=
 ⟨hr.ok3 h.ok, (hr.ec h.ec h.ok.pins).1, hr.el h.el, Nat.le_trans hr.pot h.pot⟩
theorem EI.many {N B : Nat} {ε : Eng} (h : EI N B ε) : N ≤ 65536 := by
 have := h.ok.ok.dk.many
 rwa [h.ec.dk.pages] at this
theorem EI.app {N B : Nat} {ε : Eng} {kd : Int} {tx pv nx : Nat} {data : List Nat} {c : List Chg} (h : EI N B ε) (hB : B ≤ 1000) (hg : goodR kd c = true) :
  EI N (B + 1) (ε.1, (appendLD ε.2 kd tx pv nx data c).2) ∧ (∀ m, pgA (ε.1, (appendLD ε.2 kd tx pv nx data c).2) m = pgA ε m) ∧
  (((appendLD ε.2 kd tx pv nx data c).1.2 = 0 ∧ appendLD ε.2 kd tx pv nx data c = ((ε.2.1.base + ε.2.1.b.length, 0), (ε.2.1.app (nextRec ε.2.1 kd tx pv nx data c), { ε.2.2 with log := ε.2.2.log ++ nextRec ε.2.1 kd tx pv nx data c }))) ∨
   (appendLD ε.2 kd tx pv nx data c).1.2 = 7 ∨ ((appendLD ε.2 kd tx pv nx data c).1.2 = 2 ∧ 1048576 < (bodyG kd tx pv nx data c).length)) := by
 have hs := h.el.size
 have hok := appendLD_ok (kd := kd) (tx := tx) (pv := pv) (nx := nx) (data := data) (c := c) h.ok.ok.lg h.ok.ok.dk h.el.log (by omega)
 have hpot : Am.pot (ε.1, (appendLD ε.2 kd tx pv nx data c).2) ≤ (B + 1) * 65536 := by
  have e : Am.pot (ε.1, (appendLD ε.2 kd tx pv nx data c).2) = Am.pot ε := by simp only [Am.pot, hok.2.2.2.2.2.1]
  rw [e]
  exact Nat.le_trans h.pot (Nat.mul_le_mul_right _ (Nat.le_succ B))
 have hsz : (appendLD ε.2 kd tx pv nx data c).2.1.base + (appendLD ε.2 kd tx pv nx data c).2.1.b.length ≤ (B + 1) * 1048600 := by
  have h1 := hok.2.2.2.1
  have h2 := hok.2.2.2.2.1
  omega
 have main : ∀ (hk : DK ε.2.2 (appendLD ε.2 kd tx pv nx data c).2.2) (hc : (appendLD ε.2 kd tx pv nx data c).2.1.forced ≤ (appendLD ε.2 kd tx pv nx data c).2.2.certain), EI N (B + 1) (ε.1, (appendLD ε.2 kd tx pv nx data c).2) ∧ ∀ m, pgA (ε.1, (appendLD ε.2 kd tx pv nx data c).2) m = pgA ε m := fun hk hc => by
  obtain ⟨l1, l2⟩ := h.ec.log hk
  exact ⟨⟨⟨⟨h.ok.ok.pl, hok.1, hok.2.1⟩, h.ok.pins, h.ok.full⟩, l1, ⟨hok.2.2.1, hc, hsz⟩, hpot⟩, l2⟩
 rcases appendLD_cases ε.2 kd tx pv nx data c with ⟨e, he, hc, ha⟩ | ⟨hd, hf, ha⟩ | ⟨_, _, hd, hfit, hf, ha⟩
 ·obtain ⟨m1, m2⟩ := main (by rw [ha]; exact DK.refl _) (by rw [ha]; exact h.el.cert)
  refine ⟨m1, m2, .inr ?_⟩
  rw [ha]
  rcases hc with ⟨_, hb⟩ | ⟨rfl, hb⟩ | ⟨_, hb⟩ | ⟨rfl, hb⟩
  ·rw [hg] at hb; cases hb
  ·exact .inr ⟨rfl, hb⟩
  ·rw [h.ec.dk.alive] at hb; cases hb
  ·exact .inl rfl
 ·have := h.ec.dk.fuse; omega
 ·rw [cnt_id h.ec.dk.fuse] at ha
  obtain ⟨m1, m2⟩ := main (by rw [ha]; exact ⟨rfl, rfl, rfl, rfl⟩) (by rw [ha]; exact h.el.cert)
  exact ⟨m1, m2, .inl ⟨by rw [ha], ha⟩⟩
theorem EI.done {N B : Nat} {ε ε' : Eng} {now : List (Int × List Nat)} {kd : Int} {tx pv nx lsn : Nat} {data : List Nat} {e : Int} {cl : Bool} (h : EI N B ε) (hB : B ≤ 1000) (hn : NW N now) (h1 : 1 ≤ kd) (h2 : kd ≤ 7) (hr : DnR ε now kd tx pv nx data 0 lsn e cl ε') :
  (cl = false ∧ (e = 7 ∨ e = 2) ∧ EI N (B + 2) ε' ∧ ∀ m, pgA ε' m = pgA ε m) ∨
  (cl = true ∧ e = 0 ∧ EI N (B + 2) ε' ∧ ∀ m, pgA ε' m = match lookL m now with | some b => sealL b lsn | none => pgA ε m) := by
 have hkeys : ∀ n ∈ keysS now, 0 ≤ n ∧ n < N := fun n hq => hn.keys n (keysS_mem.1 hq)
 have hN := h.many
 have hfit : ∀ {c : List Chg} {ε' : Eng} {e : Int}, ChR now (keysS now) ε e c ε' → goodR kd c = true := fun hc => by
  refine chs_good ⟨h1, by omega⟩ (hc.fit (fun x hx => good512 (hn.good x hx).1) fun n hq => ?_)
  have := hkeys n hq
  omega
 cases hr with
 | arg hq => omega
 | dead _ _ _ hd => rw [h.ec.dk.alive] at hd; cases hd
 | chg e c ε' _ _ _ hd hc he => exact absurd (hc.ec h.ec h.ok hkeys).2.2 he
 | app c ε' _ _ _ hd hc he =>
  obtain ⟨c1, c2, c3⟩ := hc.ec h.ec h.ok hkeys
  have hi : EI N B ε' := ⟨hc.ok3 h.ok, c1, hc.el h.el, Nat.le_trans hc.pot h.pot⟩
  obtain ⟨a1, a2, a3⟩ := hi.app (kd := kd) (tx := tx) (pv := pv) (nx := nx) (data := data) (c := c) hB (hfit hc)
  refine .inl ⟨rfl, ?_, a1.more (by omega), fun m => by rw [a2, c2]⟩
  rcases a3 with a3 | a3 | a3
  ·exact absurd a3.1 he
  ·exact .inl a3
  ·exact .inr a3.1
 | put c ε' e ε'' _ _ _ hd hc ha hp =>
  obtain ⟨c1, c2, c3⟩ := hc.ec h.ec h.ok hkeys
  have hi : EI N B ε' := ⟨hc.ok3 h.ok, c1, hc.el h.el, Nat.le_trans hc.pot h.pot⟩
  obtain ⟨a1, a2, a3⟩ := hi.app (kd := kd) (tx := tx) (pv := pv) (nx := nx) (data := data) (c := c) hB (hfit hc)
  obtain ⟨p1, p2, p3⟩ := hp.ec a1.ec a1.ok hn hkeys
  have hl : (keysS now).length ≤ N := by
   have := hn.len
   rw [keysS, (srtI_perm _).length_eq, List.length_map]; exact this
  have hpt := hp.pot a1.ok
  have hp0 := a1.pot
  refine .inr ⟨rfl, p2, ⟨hp.ok3 a1.ok, p1, ?_, by omega⟩, fun m => ?_⟩
  ·have := hp.el a1.el
   exact ⟨this.log, this.cert, Nat.le_trans this.size (Nat.mul_le_mul_right _ (by omega))⟩
  ·rw [if_pos p2, p3]
   by_cases hm : m ∈ keysS now
   ·rw [if_pos hm]
    cases hq : lookL m now with
    | some b => rfl
    | none => exact absurd (keysS_mem.1 hm) (lookL_none.1 hq)
   ·rw [if_neg hm, a2, c2]
    have : lookL m now = none := lookL_none.2 fun hq => hm (keysS_mem.2 hq)
    rw [this]
end Go.Proofs.YtconhghphklfjaaGreat.Am
namespace Go.Proofs.YtconhghphklfjaaGreat.Am
open Go
end Go.Proofs.YtconhghphklfjaaGreat.Am
namespace Go.Proofs.YtconhghphklfjaaGreat.Am
open Go
section
variable {P : Program} {h : H} {S : List Assn} {k j : Nat} {v : V} {cs : List V}
end
structure Deed where
 act : Int
 keep : Int
 w : List (Int × List Nat)
 data : List Nat
section
variable {told : Nat → Option (List V → H → Option (V × H))} {h : H} {S : List Assn} {X : Assn} {r k q p a g chk N B : Nat} {op v x pv : V} {l data : List Nat} {ε : Eng} {ps : List (List Nat)}
end
end Go.Proofs.YtconhghphklfjaaGreat.Am
namespace Go.Proofs.YtconhghphklfjaaGreat.Am
open Go
section
variable {told : Nat → Option (List V → H → Option (V × H))} {h : H} {S : List Assn} {X : Assn} {r k q p a g chk N B : Nat} {op v x pv wv dv : V} {l data : List Nat} {ε : Eng} {ps : List (List Nat)}
end
end Go.Proofs.YtconhghphklfjaaGreat.Am
namespace Go.Proofs.YtconhghphklfjaaGreat.Am
open Go
section
variable {told : Nat → Option (List V → H → Option (V × H))} {h : H} {S : List Assn} {X : Assn} {r k q p a g chk N B : Nat} {op v x pv nv wv dv : V} {l data : List Nat} {ε : Eng} {ps nx : List (List Nat)} {now : List (Int × List Nat)}
end
end Go.Proofs.YtconhghphklfjaaGreat.Am
namespace Go.Proofs.YtconhghphklfjaaGreat.Am
open Go
section
variable {told : Nat → Option (List V → H → Option (V × H))} {h : H} {S : List Assn} {X : Assn} {r k q p a g chk N B : Nat} {op v x pv nv wv dv : V} {l data : List Nat} {ε : Eng} {ps nx : List (List Nat)} {now : List (Int × List Nat)} {Q : Ex → List (Nat × V) → H → Prop}
end
end Go.Proofs.YtconhghphklfjaaGreat.Am
namespace Go.Proofs.YtconhghphklfjaaGreat.Am
open Go
theorem zero_check : checkL (List.replicate 512 0) = 0 := by rw [checkL, if_pos rfl]
def fresh (n m f : Nat) : Eng := (Pl.fresh f, (Lg.fresh, Dk.fresh n m))
theorem fresh_at {n m : Nat} (k : Int) : (Dk.fresh n m).at k = List.replicate 512 0 := by
 rw [Dk.at, show lookL k (Dk.fresh n m).now = none from rfl]
 simp only [Dk.fresh]
 cases hq : (List.replicate n (none : Option (List Nat)))[k.toNat]? with
 | none => rfl
 | some o =>
  have := List.eq_of_mem_replicate (List.mem_of_getElem? hq)
  subst this
  rfl
theorem fresh_frames {f i : Nat} {x : Fm} (h : (Pl.fresh f).frames[i]? = some x) : x = emptyF := List.eq_of_mem_replicate (List.mem_of_getElem? h)
theorem EI.fresh {n m f : Nat} (hn : n ≤ 65536) (hm : m ≤ 16777216) (hf : 1 ≤ f) (hf2 : f ≤ 1024) : EI n 1 (fresh n m f) := by
 have hfr : ∀ x ∈ (Pl.fresh f).frames, x = emptyF := fun x hx => List.eq_of_mem_replicate hx
 have hlen : (Pl.fresh f).frames.length = f := List.length_replicate
 refine ⟨⟨⟨⟨(show 0 < (Pl.fresh f).frames.length by rw [hlen]; omega), (show (Pl.fresh f).frames.length ≤ 1024 by rw [hlen]; exact hf2), fun e he => (by cases he), fun x hx => by rw [hfr x hx]; decide, fun x hx => by rw [hfr x hx]; decide⟩, Lg.fresh_ok, ?_⟩, fun x hx => by rw [hfr x hx]; rfl, ⟨List.nodup_nil, fun k i hk => (by cases hk)⟩⟩, ⟨?_, List.nodup_nil, fun k i hk => (by cases hk), fun i x hx => .inl (by rw [fresh_frames hx]; decide), fun k hk => (by cases hk), List.nodup_nil⟩, ⟨rfl, Nat.le_refl _, (show (1 : Nat) + 0 ≤ 1 * 1048600 by decide)⟩, ?_⟩
 ·exact ⟨(show (-1 : Int) < 4294967296 by decide), Nat.zero_le _, hm, fun e he => (by cases he), fun i b hb => (by have h1 : some b = none := List.eq_of_mem_replicate (List.mem_of_getElem? hb); cases h1), Nat.le_refl _, (show (List.replicate n (none : Option (List Nat))).length ≤ 65536 by rw [List.length_replicate]; exact hn)⟩
 ·exact ⟨rfl, (show (-1 : Int) < 0 by decide), List.length_replicate, fun k hk => (by cases hk), List.nodup_nil, fun k h0 h1 => by show checkL ((Dk.fresh n m).at k) = 0; rw [fresh_at]; exact zero_check⟩
 ·have e : chCount (Pl.fresh f).frames = 0 := by
   rw [chCount, List.count_eq_zero]
   intro hh
   obtain ⟨x, hx, hc⟩ := List.mem_map.1 hh
   rw [hfr x hx] at hc
   cases hc
  show ([] : List Wr).length + chCount (Pl.fresh f).frames ≤ _
  rw [e]; decide
structure W3 (told : Nat → Option (List V → H → Option (V × H))) : Prop where
 w : W2 told
 aw : ∃ g, told 11 = some g ∧ ∀ h, g [] h = some (.bool true, h)
section
variable {told : Nat → Option (List V → H → Option (V × H))} {h : H} {S : List Assn} {X : Assn} {r k q p a g chk N B : Nat} {op v x pv nv wv dv lv : V} {l data : List Nat} {ε : Eng} {ps nx : List (List Nat)} {L : List Deed} {cs : List V}
theorem awake_ct (hT : W3 told) (s : Sat h S) : Call ⟨Tryz.prog, told⟩ 11 [] h fun v h' => v = .bool true ∧ h' = h := by
 obtain ⟨g, h1, h2⟩ := hT.aw
 exact ⟨_, _, CallDo.told h1 Tryz.func11 rfl (h2 h), rfl, rfl⟩
end
end Go.Proofs.YtconhghphklfjaaGreat.Am
namespace Go.Proofs.YtconhghphklfjaaGreat.Am
open Go
structure W4 (told : Nat → Option (List V → H → Option (V × H))) : Prop where
 w : W3 told
 pr : told 101 = some (toldIf Tryz.prog 101 pinPr)
theorem W4.wr {told : Nat → Option (List V → H → Option (V × H))} (h : W4 told) : WR told := ⟨h.w.w.w, h.pr⟩
theorem arr_shape {h : H} {S : List Assn} {k j : Nat} {v : V} {cs : List V} (s : Sat h S) (hk : getA S j = some (.arr k v cs)) : v = .sl0 ∨ ∃ i o n c, v = .sl i o n c := by
 obtain ⟨m, r, h1, h2, h3⟩ := s.at hk
 rcases h3.2 with ⟨rfl, _⟩ | ⟨id, n, cap, N, rest, rfl, _⟩
 ·exact .inl rfl
 ·exact .inr ⟨_, _, _, _, rfl⟩
theorem build_recD {h : H} {l : List Nat} {kd : Int} {dv : V} (hd : View h dv l) : buildV Tryz.prog 40 [(0, .int .i64 kd), (4, dv)] = some (.agg (rcC kd 0 0 0 dv .sl0)) := by
 rcases hd.2 with ⟨rfl | ⟨ea, rfl⟩, _⟩ | ⟨id, off, cap, n, cs, st, rfl, _⟩
 ·rw [bv40]; rfl
 ·rw [bv40]; rfl
 ·rw [bv40]; rfl
theorem build_recC {ch : V} (hc : ch = .sl0 ∨ ∃ i o n c, ch = .sl i o n c) : buildV Tryz.prog 40 [(0, .int .i64 1), (5, ch)] = some (.agg (rcC 1 0 0 0 .sl0 ch)) := by
 rcases hc with rfl | ⟨i, o, n, c, rfl⟩
 ·rw [bv40]; rfl
 ·rw [bv40]; rfl
section
variable {told : Nat → Option (List V → H → Option (V × H))} {h : H} {S : List Assn} {X : Assn} {dv : V} {data : List Nat}
noncomputable def erT : Code := pathC [1, 1, 1, 1, 1, 1, 1, 1, 1, 1, 1, 1, 1] ((Tryz.f4.body).getD .skip)
noncomputable def erZ : Code := pathC [1, 1, 1, 1, 1, 1, 1, 1, 1, 1, 1, 1, 1, 1, 1, 1, 1] ((Tryz.f4.body).getD .skip)
theorem errs_end (hT : W4 told) {p a q r g : Nat} {ε : Eng} {data0 : List Nat} {chk B : Nat} (hε : EI 4 B ε) (hB : B ≤ 900) (s : Sat h (isGp g a [] true :: isSt a p q r .ptr0 data0 chk :: isPl r p q ε.1 :: isLg q p ε.2.1 :: isDk p ε.2.2 :: S))
  {E : List (Nat × V)} {Q : Ex → List (Nat × V) → H → Prop} (hE : Has E [(11, .ptr g 0)]) (hq : ∀ E' h', look E' 6 = some (.bool true) → Q .ret E' h') : WP ⟨Tryz.prog, told⟩ 205 erZ E h Q := by
 have hW := hT.w.w.w
 have hpg := hε.ec.dk.pages
 have hpot := hε.pot
 unfold Am.pot at hpot
 refine WP.has hE (zg rfl (zm rfl (WPs.call rfl rfl rfl rfl rfl rfl rfl (gread_ct (n := 0) hW s hε.ok (by omega) (fun e he => by cases he)) ?_)))
 rintro v h ⟨e, b, ε2, hr, hv⟩
 have he : e = 18 ∧ ε = ε2 := by
  cases hr with
  | arg hn => exfalso; apply hn; show (0 : Int) ≤ 0 ∧ (0 : Int) < (ε.2.2.pages.length : Int); omega
  | over _ _ _ => exact ⟨rfl, rfl⟩
  | own _ _ _ h _ => cases h
  | read _ _ _ _ _ h _ _ => cases h
 obtain ⟨rfl, rfl⟩ := he
 rcases hv with ⟨_, rfl, s⟩ | ⟨h0, _⟩
 ·skip
  refine zm rfl (ze rfl (ze rfl (za rfl (zv (zg rfl (zm rfl (WPs.call rfl rfl rfl rfl rfl rfl rfl (rnew_ct hW s) ?_)))))))
  rintro v h ⟨l, hl, s⟩
  refine WPs.call rfl rfl rfl rfl rfl rfl rfl (gwrite_ct (n := 0) hW (s.bringS [1, 1, 1, 1, 1, 0]) (rd_buf _ _) (by omega) hε.ok (by omega) (fun e he => by cases he)) ?_
  rintro v h ⟨e, now', ε2, hr, rfl, s⟩
  dsimp only [delA, bringA] at s
  have he : e = 18 ∧ [] = now' ∧ ε = ε2 := by
   cases hr with
   | may e c ε' hr he =>
    cases hr with
    | arg hn => exfalso; apply hn; show (0 : Int) ≤ 0 ∧ (0 : Int) < (ε.2.2.pages.length : Int); omega
    | over _ _ _ => exact ⟨rfl, rfl, rfl⟩
    | own _ _ _ h _ => cases h
    | read _ _ _ _ _ h _ _ => cases h
   | bad c ε' hr hg =>
    cases hr with
    | own _ _ _ h _ => cases h
    | read _ _ _ _ _ h _ _ => cases h
   | done c ε' hr hg =>
    cases hr with
    | own _ _ _ h _ => cases h
    | read _ _ _ _ _ h _ _ => cases h
  obtain ⟨rfl, rfl, rfl⟩ := he
  refine za rfl (zv (zg rfl (zm rfl (zo rfl (o_build rfl (by rw [bv40]; rfl)) ?_))))
  refine WPs.call rfl rfl rfl rfl rfl rfl rfl (done_over hW rfl rfl s) ?_
  rintro v h ⟨rfl, s⟩
  refine zm rfl (ze rfl (ze rfl (za rfl (zv (zg rfl (zm rfl (WPs.call rfl rfl rfl rfl rfl rfl rfl (gdrop_over hW s) ?_)))))))
  rintro v h ⟨rfl, s⟩
  refine zv (zg rfl (zm rfl (WPs.opT rfl rfl rfl (o_bin rfl rfl bEql) (rfl) (zm rfl (zm rfl (WPs.opT rfl rfl rfl (o_bin rfl rfl bEql) (rfl) (zq rfl (zm rfl (zm rfl (WPs.opT rfl rfl rfl (o_bin rfl rfl bEql) (rfl) (zq rfl (za rfl (zv (WP.ret ?_))))))))))))))
  exact hq _ _ rfl
 ·cases h0
theorem dn_nil {N B lsn kd : Nat} {ε ε' : Eng} {data : List Nat} {e : Int} {cl : Bool} (h : EI N B ε) (hB : B ≤ 900) (h1 : 1 ≤ kd) (h2 : kd ≤ 7) (hr : DnR ε [] kd 0 0 0 data 0 lsn e cl ε') :
  EI N (B + 2) ε' ∧ ((cl = false ∧ (e = 7 ∨ e = 2)) ∨ (cl = true ∧ e = 0 ∧ lsn = ε.2.1.base + ε.2.1.b.length ∧ ε'.2.1 = ε.2.1.app (nextRec ε.2.1 kd 0 0 0 data []) ∧ (bodyG kd 0 0 0 data []).length ≤ 1048576)) := by
 have hk : keysS ([] : List (Int × List Nat)) = [] := rfl
 have hnw := NW.nil N
 have hdone := h.done (by omega) hnw (by omega) (by omega) hr
 have hgood : goodR kd ([] : List Chg) = true := by simp [goodR]; omega
 refine ⟨by rcases hdone with ⟨_, _, q, _⟩ | ⟨_, _, q, _⟩ <;> exact q, ?_⟩
 cases hr with
 | arg hh => rcases hh with hh | hh <;> omega
 | dead _ _ _ hd => rw [h.ec.dk.alive] at hd; cases hd
 | chg e c ε' _ _ _ _ hc he => rw [hk] at hc; cases hc with | nil => exact absurd rfl he
 | app c ε1 _ _ _ _ hc he =>
  rw [hk] at hc
  cases hc with
  | nil =>
   obtain ⟨_, _, a3⟩ := h.app (kd := kd) (tx := 0) (pv := 0) (nx := 0) (data := data) (c := []) (by omega) hgood
   rcases a3 with ⟨a3, _⟩ | a3 | ⟨a3, _⟩
   ·exact absurd a3 he
   ·exact .inl ⟨rfl, .inl a3⟩
   ·exact .inl ⟨rfl, .inr a3⟩
 | put c ε1 e ε2 _ _ _ _ hc ha hp =>
  rw [hk] at hc hp
  cases hc with
  | nil =>
   cases hp with
   | nil =>
    have hbig : (bodyG kd 0 0 0 data []).length ≤ 1048576 := by
     rcases appendLD_cases ε.2 kd 0 0 0 data [] with ⟨e, he, _, hq⟩ | ⟨_, _, hq⟩ | ⟨_, hb, _⟩
     ·rw [hq] at ha; exact absurd ha he
     ·rw [hq] at ha; cases ha
     ·exact hb
    obtain ⟨_, _, a3⟩ := h.app (kd := kd) (tx := 0) (pv := 0) (nx := 0) (data := data) (c := []) (by omega) hgood
    rcases a3 with ⟨_, a3⟩ | a3 | ⟨a3, _⟩
    ·refine .inr ⟨rfl, rfl, ?_, ?_, hbig⟩
     ·rw [if_pos rfl, a3]
     ·rw [a3]
    ·rw [ha] at a3; cases a3
    ·rw [ha] at a3; cases a3
theorem errs_tail (hT : W4 told) {p a q r g : Nat} {ε : Eng} {kd : Int} (hε : EI 4 1 ε) (hd : data.length ≤ 1048576) (s : Sat h (isGp g a [] false :: isSt a p q r (.ptr g 0) [] 0 :: isPl r p q ε.1 :: isLg q p ε.2.1 :: isDk p ε.2.2 :: X :: S)) (hX : Ent X (rdB dv data))
  {E : List (Nat × V)} {Q : Ex → List (Nat × V) → H → Prop} (hE : Has E [(1, .int .i64 kd), (2, dv), (8, .ptr a 0), (11, .ptr g 0)]) (hq : ∀ E' h', look E' 6 = some (.bool true) → Q .ret E' h') : WP ⟨Tryz.prog, told⟩ 205 erT E h Q := by
 have hW := hT.w.w.w
 have hpot := hε.pot
 have hsz := hε.el.size
 refine WP.has hE (zg rfl (zm rfl (zo rfl (o_build rfl (by rw [bv54]; rfl)) ?_)))
 obtain ⟨rv, h1, e1', s1⟩ := sat_bs1 (P := Tryz.prog) (k := 4) (x := .agg [.int .i64 1, .int .i64 0, .bool false, .sl0]) s Tryz.underlying38 zt54 sz54 rfl (by decide) (by decide) rfl rfl
 dsimp only [V.cells] at s1
 refine WPs.any rfl rfl rfl (OpR.of (R := fun v h' => v = rv ∧ h' = h1) (o_bs rfl e1') ⟨rfl, rfl⟩) ?_
 rintro v' h' ⟨rfl, rfl⟩
 refine zo rfl (o_build rfl (build_recC (arr_shape s1 (j := 0) rfl))) ?_
 have s := s1.nilBuf.bringS [2, 2, 2, 2, 2, 0, 0]
 dsimp only [bringA, getA, delA] at s
 refine WPs.call rfl rfl rfl rfl rfl rfl rfl (done_ct (nch := 1) hW s (rd_buf _ _) rfl hε.ok (by omega) (fun e he => by cases he) (by decide) (fun n hn => by cases hn) (by decide) (by decide) (by decide) (by decide) hε.el.log (by omega)) ?_
 rintro v h ⟨lsn, e, cl, ε', hr, rfl, s⟩
 have hf : lsn = 0 ∧ e = 1 ∧ cl = false ∧ ε = ε' := by
  cases hr with
  | arg _ => exact ⟨rfl, rfl, rfl, rfl⟩
  | dead _ _ h3 _ => cases h3
  | chg _ _ _ _ _ h3 _ _ _ => cases h3
  | app _ _ _ _ h3 _ _ _ => cases h3
  | put _ _ _ _ _ _ h3 _ _ _ _ => cases h3
 obtain ⟨rfl, rfl, rfl, rfl⟩ := hf
 dsimp only [cond] at s
 refine zm rfl (ze rfl (ze rfl (za rfl (zv (zw (zg rfl (zm rfl (WPs.opF rfl rfl rfl (o_bin rfl rfl bNeq) (rfl) (zv (zj rfl (WP.skip (zg rfl (zm rfl (zm rfl (zm rfl (zo rfl (o_build rfl (build_recD (s.viewX (k := 6) rfl hX))) ?_))))))))))))))))
 have s := (s.nilArr (k := 4)).bringS [1, 1, 1, 1, 1, 2, 0]
 dsimp only [bringA, getA, delA] at s
 refine WPs.call rfl rfl rfl rfl rfl rfl rfl (done_ct (nch := 0) hW s hX rfl hε.ok (by omega) (fun e he => by cases he) (by decide) (fun n hn => by cases hn) (by decide) (by decide) (by decide) (by omega) hε.el.log (by omega)) ?_
 rintro v h ⟨lsn, e, cl, ε', hr, rfl, s⟩
 refine zm rfl (ze rfl (ze rfl (za rfl (za rfl (zv (zw (zg rfl (zm rfl ?_))))))))
 by_cases hk : 1 ≤ kd ∧ kd ≤ 7
 ·obtain ⟨k, rfl⟩ := Int.eq_ofNat_of_zero_le (show 0 ≤ kd by omega)
  refine WPs.opF rfl rfl rfl (o_bin rfl rfl bLss) (by simp; omega) ?_
  refine zm rfl (zm rfl (WPs.opF rfl rfl rfl (o_bin rfl rfl bGtr) (by simp; omega) ?_))
  refine zp rfl (zv (zj rfl (zg rfl (zm rfl ?_))))
  obtain ⟨hε', hf⟩ := dn_nil hε (by decide) (by omega) (by omega) hr
  rcases hf with ⟨rfl, he⟩ | ⟨rfl, rfl, rfl, hμ, hb⟩
  ·skip
   have s : Sat h (isGp g a [] false :: isSt a p q r (.ptr g 0) [] 0 :: _) := s
   refine WPs.opT rfl rfl rfl (o_bin rfl rfl bNeq) (by simp; omega) ?_
   refine zm rfl (zm rfl ?_)
   rcases he with rfl | rfl
   ·skip
    refine WPs.opF rfl rfl rfl (o_bin rfl rfl bNeq) (rfl) (zq rfl (zm rfl (zx rfl (zx rfl (zp rfl (zv (zj rfl (zg rfl (zm rfl (WPs.opT rfl rfl rfl (o_bin rfl rfl bNeq) (rfl) (zv (zi rfl (zr rfl (zm rfl (WPs.call rfl rfl rfl rfl rfl rfl rfl (gdrop_ct hW s) ?_)))))))))))))))
    rintro v h ⟨rfl, s⟩
    refine zv ?_
    exact errs_end hT hε' (by decide) s ⟨rfl, trivial⟩ hq
   ·skip
    refine WPs.opT rfl rfl rfl (o_bin rfl rfl bNeq) (rfl) (zq rfl (zm rfl (zm rfl (WPs.opF rfl rfl rfl (o_bin rfl rfl bNeq) (rfl) (zq rfl (zv (zj rfl (zg rfl (zm rfl (WPs.opT rfl rfl rfl (o_bin rfl rfl bNeq) (rfl) (zv (zi rfl (zr rfl (zm rfl (WPs.call rfl rfl rfl rfl rfl rfl rfl (gdrop_ct hW s) ?_)))))))))))))))
    rintro v h ⟨rfl, s⟩
    refine zv ?_
    exact errs_end hT hε' (by decide) s ⟨rfl, trivial⟩ hq
  ·skip
   have s : Sat h (isGp g a [] true :: isSt a p q r .ptr0 [] 0 :: _) := s
   refine WPs.opF rfl rfl rfl (o_bin rfl rfl bNeq) (rfl) (zm rfl (zx rfl (zx rfl (zp rfl (zm rfl (zx rfl (zx rfl (zp rfl (zv (zj rfl (zg rfl (zm rfl (WPs.opF rfl rfl rfl (o_bin rfl rfl bNeq) (rfl) (zv (zj rfl (zg rfl (zm rfl (WPs.call rfl rfl rfl rfl rfl rfl rfl (sLog_ct hW (s.bringS [1])) ?_))))))))))))))))))
   rintro v h' ⟨rfl, rfl⟩
   refine zm rfl ?_
   have hlen : ε'.2.1.b = ε.2.1.b ++ (nextRec ε.2.1 k 0 0 0 data [] ++ []) := by rw [hμ, List.append_nil]; rfl
   have hhas : ε'.2.1.hasB (ε.2.1.base + ε.2.1.b.length) = true := by
    rw [hμ, Lg.hasB, List.any_eq_true]
    exact ⟨ε.2.1.b.length, by simp [Lg.app], by simp [Lg.app]⟩
   have hbase : ε'.2.1.base = ε.2.1.base := by rw [hμ]; rfl
   have s := s.bringS [3]
   dsimp only [bringA, getA, delA] at s
   refine WPs.call rfl rfl rfl rfl rfl rfl rfl (lRead_rec (kd := k) (tx := 0) (pv := 0) (nx := 0) (n := ε.2.1.base + ε.2.1.b.length) (a := ε.2.1.b.length) hT.wr (by simp [goodR]; omega) (by omega) ⟨by decide, by decide, by decide, hd, by decide⟩ rfl hb rfl hlen (by rw [hbase]) hhas hε'.ok.ok.lg s) ?_
   rintro v h ⟨dt, ch, cs, rfl, s⟩
   have hdt := (s.buf (k := 1) rfl).view.cells
   have hch := s.arrV (j := 2) rfl
   have hst : [V.int .i64 (k : Int), V.int .u64 ((0 : Nat) : Int), V.int .u64 ((0 : Nat) : Int), V.int .u64 ((0 : Nat) : Int), dt, ch].all storable = true := rcC_st hdt.2 hch.2.1
   refine zm rfl (ze rfl (ze rfl (ze rfl ?_)))
   refine WPs.newS s rfl rfl rfl (o_alloc zt40) (fun p21 h s => ?_)
   dsimp only [V.cells, List.length_cons, List.length_nil, Nat.reduceAdd] at s
   refine WPs.stS rfl rfl rfl rfl rfl (s.stA (j := 0) rfl sz40 rfl hst) ?_
   rintro h s
   dsimp only [rcC, setA] at s
   refine za rfl (za rfl (zv (zg rfl (zm rfl (WPs.opF rfl rfl rfl (o_bin rfl rfl bNeq) (rfl) (zm rfl (zf rfl (fa40_0 _ _) (zl rfl (by exact s.ld (k := 0) rfl ag3 rfl) ?_))))))))
   refine zm rfl (WPs.opF rfl rfl rfl (o_bin rfl rfl bNeq) (by simp) ?_)
   refine zp rfl (zm rfl (zf rfl (fa40_4 _ _) (zl rfl (by exact s.ld (k := 0) rfl ag32 rfl) ?_)))
   refine zo rfl (o_conv rfl (cvS (s.viewX (k := 2) rfl (rd_buf _ _)))) (zm rfl (zo rfl (o_conv rfl (cvS (s.viewX (k := 9) rfl hX))) (WPs.opF rfl rfl rfl (o_bin rfl rfl bNeqS) (by simp) ?_)))
   refine zp rfl (zm rfl (zf rfl (fa40_5 _ _) (zl rfl (by exact s.ld (k := 0) rfl ag38 rfl) ?_)))
   refine zo rfl (o_len rfl rfl rfl (s.chgLen (j1 := 3) (j2 := 4) rfl rfl Tryz.underlying38)) (WPs.opF rfl rfl rfl (o_bin rfl rfl bNeq) (rfl) (zp rfl (zv (zj rfl (WP.skip ?_)))))
   exact errs_end hT hε' (by decide) (s.bringS [5, 5, 5, 1, 4]) ⟨rfl, trivial⟩ hq
 ·skip
  have hf : lsn = 0 ∧ e = 1 ∧ cl = false ∧ ε = ε' := by
   cases hr with
   | arg _ => exact ⟨rfl, rfl, rfl, rfl⟩
   | dead h1 h2 _ _ => exact absurd ⟨h1, h2⟩ hk
   | chg _ _ _ h1 h2 _ _ _ _ => exact absurd ⟨h1, h2⟩ hk
   | app _ _ h1 h2 _ _ _ _ => exact absurd ⟨h1, h2⟩ hk
   | put _ _ _ _ h1 h2 _ _ _ _ _ => exact absurd ⟨h1, h2⟩ hk
  obtain ⟨rfl, rfl, rfl, rfl⟩ := hf
  have s : Sat h (isGp g a [] false :: isSt a p q r (.ptr g 0) [] 0 :: _) := s
  by_cases h1 : kd < 1
  ·skip
   refine WPs.opT rfl rfl rfl (o_bin rfl rfl bLss) (by simp; omega) ?_
   refine zm rfl (zx rfl (zx rfl (zq rfl (zv (zi rfl (zw (zg rfl (zm rfl (WPs.opF rfl rfl rfl (o_bin rfl rfl bNeq) (rfl) (zm rfl (zm rfl (WPs.opF rfl rfl rfl (o_bin rfl rfl bNeq) (rfl) (zp rfl (zv (zj rfl (WP.skip (zr rfl (zm rfl (WPs.call rfl rfl rfl rfl rfl rfl rfl (gdrop_ct hW s) ?_)))))))))))))))))))
   rintro v h ⟨rfl, s⟩
   refine zv ?_
   exact errs_end hT hε (by decide) s ⟨rfl, trivial⟩ hq
  ·skip
   refine WPs.opF rfl rfl rfl (o_bin rfl rfl bLss) (by simp; omega) ?_
   refine zm rfl (zm rfl (WPs.opT rfl rfl rfl (o_bin rfl rfl bGtr) (by simp; omega) ?_))
   refine zp rfl (zv (zi rfl (zw (zg rfl (zm rfl (WPs.opF rfl rfl rfl (o_bin rfl rfl bNeq) (rfl) (zm rfl (zm rfl (WPs.opF rfl rfl rfl (o_bin rfl rfl bNeq) (rfl) (zp rfl (zv (zj rfl (WP.skip (zr rfl (zm rfl (WPs.call rfl rfl rfl rfl rfl rfl rfl (gdrop_ct hW s) ?_))))))))))))))))
   rintro v h ⟨rfl, s⟩
   refine zv ?_
   exact errs_end hT hε (by decide) s ⟨rfl, trivial⟩ hq
theorem errs_ct (hT : W4 told) {n kd : Int} (hd : data.length ≤ 1048576) (s : Sat h (X :: S)) (hX : Ent X (rdB dv data)) : Call ⟨Tryz.prog, told⟩ 4 [.int .i64 n, .int .i64 kd, dv] h fun v h' => v = .bool true := by
 have hW := hT.w.w.w
 have e0 : EI 4 1 (fresh 4 65536 8) := EI.fresh (by decide) (by decide) (by decide) (by decide)
 refine Call.of_wp (hW.free _ rfl) Tryz.func4 rfl rfl (zg rfl (za rfl (zv (zw (zg rfl (WPs.call rfl rfl rfl rfl rfl rfl rfl (awake_ct hT.w s) ?_))))))
 rintro v h' ⟨rfl, rfl⟩
 refine WPs.opF rfl rfl rfl (o_un rfl rfl) (rfl) (zv (zj rfl (WP.skip (zg rfl (WPs.call rfl rfl rfl rfl rfl rfl rfl (lawOpen_ct (n := 4) (m := 65536) (f := 8) hW s (by decide) (by decide) (by decide) (by decide) (by decide)) ?_)))))
 rintro v h ⟨p, a, q, r, rfl, s⟩
 refine zm rfl (ze rfl (ze rfl (za rfl (za rfl (zv (zw (zg rfl (zm rfl (WPs.opF rfl rfl rfl (o_bin rfl rfl (eqlP0 Tryz.underlying24)) (rfl) (zv (zj rfl (WP.skip (zg rfl (zm rfl (zm rfl ?_)))))))))))))))
 have s : Sat h (isSt a p q r .ptr0 [] 0 :: isPl r p q (fresh 4 65536 8).1 :: isLg q p (fresh 4 65536 8).2.1 :: isDk p (fresh 4 65536 8).2.2 :: X :: S) := s
 have hc : (fresh 4 65536 8).2.1.b = [] ∧ (fresh 4 65536 8).2.1.starts = [] ∧ (fresh 4 65536 8).2.1.base = 1 := ⟨rfl, rfl, rfl⟩
 generalize fresh 4 65536 8 = ε at e0 s hc
 refine WPs.call rfl rfl rfl rfl rfl rfl rfl (sread_ct (n := n) hW s e0.ok.ok e0.ok.pins (by have := e0.pot; unfold Am.pot at this; omega)) ?_
 rintro v h ⟨e, b, ε1, hr, hv⟩
 obtain ⟨u, rfl, s⟩ : ∃ u, v = .tup [u, .int .i64 e] ∧ Sat h (isSt a p q r .ptr0 [] 0 :: isPl r p q ε1.1 :: isLg q p ε1.2.1 :: isDk p ε1.2.2 :: X :: S) := by
  rcases hv with ⟨_, rfl, s⟩ | ⟨rfl, u, rfl, s⟩
  ·exact ⟨_, rfl, s⟩
  ·exact ⟨_, rfl, s.del 0⟩
 have e1 := EI.rd e0 hr
 obtain ⟨_, _, k1, k2⟩ := RdR.ec hr e0.ec e0.ok.pins
 refine zm rfl (ze rfl (ze rfl (za rfl (za rfl (zv (zg rfl (zm rfl (WPs.call rfl rfl rfl rfl rfl rfl rfl (sgroup_ct hW s) ?_))))))))
 rintro v h ⟨g, rfl, s⟩
 refine zm rfl (ze rfl (ze rfl (za rfl (za rfl (zv (zw (zg rfl (zm rfl (WPs.opF rfl rfl rfl (o_bin rfl rfl bNeq) (rfl) (zm rfl (zm rfl (WPs.opF rfl rfl rfl (o_bin rfl rfl (eqlP0 Tryz.underlying27)) (rfl) (zp rfl (zv (zj rfl (WP.skip (zg rfl (zm rfl (WPs.call rfl rfl rfl rfl rfl rfl rfl (sgroup_held hW (s.bringS [1])) ?_)))))))))))))))))))
 rintro v h ⟨rfl, s⟩
 dsimp only [delA, bringA] at s
 refine zm rfl (ze rfl (ze rfl (za rfl (za rfl (zv (zg rfl (zm rfl (WPs.call rfl rfl rfl rfl rfl rfl rfl (check_held hW s) ?_))))))))
 rintro v h ⟨rfl, s⟩
 refine za rfl (zv (zg rfl (zm rfl (WPs.call rfl rfl rfl rfl rfl rfl rfl (clean_held hW s) ?_))))
 rintro v h ⟨rfl, s⟩
 refine za rfl (zv (zg rfl (zm rfl (zm rfl (WPs.call rfl rfl rfl rfl rfl rfl rfl (gread_ct (n := n) hW (s.bringS [1]) e1.ok (by have := e1.pot; unfold Am.pot at this; omega) (fun e he => by cases he)) ?_)))))
 rintro v h ⟨e', b', ε2, hr', hv⟩
 obtain ⟨u', rfl, s⟩ : ∃ u, v = .tup [u, .int .i64 e'] ∧ Sat h (isGp g a [] false :: isSt a p q r (.ptr g 0) [] 0 :: isPl r p q ε2.1 :: isLg q p ε2.2.1 :: isDk p ε2.2.2 :: X :: S) := by
  rcases hv with ⟨_, rfl, s⟩ | ⟨rfl, u, rfl, s⟩
  ·exact ⟨_, rfl, s⟩
  ·exact ⟨_, rfl, s.del 0⟩
 have e2 := EI.grd e1 hr'
 obtain ⟨_, _, k3, k4⟩ := GRd.ec hr' e1.ec e1.ok.pins
 refine zm rfl (ze rfl (ze rfl (za rfl (za rfl (zv (zg rfl (zm rfl ?_)))))))
 by_cases h1 : n < 0
 ·obtain ⟨rfl, _⟩ := k2 (by omega)
  have h3 := k4 (by omega)
  subst h3
  refine WPs.opT rfl rfl rfl (o_bin rfl rfl bLss) (by simp; omega) ?_
  refine zm rfl (zx rfl (zx rfl (zq rfl (za rfl (zv (zw (zg rfl (zm rfl (zm rfl (zm rfl (WPs.opF rfl rfl rfl (o_bin rfl rfl bNeq) (rfl) (zm rfl (zm rfl (WPs.opF rfl rfl rfl (o_bin rfl rfl bNeq) (rfl) (zp rfl (zq rfl (zm rfl (zm rfl (zo rfl (o_un rfl rfl) (zm rfl (zx rfl (zx rfl (zx rfl ?_)))))))))))))))))))))))
  refine zx rfl (zx rfl (zx rfl (zp rfl (zp rfl (zm rfl (zm rfl (WPs.opF rfl rfl rfl (o_bin rfl rfl bNeq) (rfl) (zp rfl (zm rfl (zm rfl (WPs.opF rfl rfl rfl (o_bin rfl rfl bNeq) (rfl) (zp rfl (zm rfl (zm rfl (WPs.opF rfl rfl rfl (o_bin rfl rfl bNeq) (rfl) (zp rfl (zv (zj rfl (WP.skip ?_)))))))))))))))))))
  exact errs_tail hT e2 hd s hX ⟨rfl, rfl, rfl, rfl, trivial⟩ (fun E' h' hl => ⟨trivial, _, res1 hl, rfl⟩)
 ·skip
  refine WPs.opF rfl rfl rfl (o_bin rfl rfl bLss) (by simp; omega) ?_
  refine zm rfl (zm rfl ?_)
  by_cases h2 : 4 ≤ n
  ·obtain ⟨rfl, _⟩ := k2 (by omega)
   have h3 := k4 (by omega)
   subst h3
   refine WPs.opT rfl rfl rfl (o_bin rfl rfl bGeq) (by simp; omega) ?_
   refine zp rfl (za rfl (zv (zw (zg rfl (zm rfl (zm rfl (zm rfl (WPs.opF rfl rfl rfl (o_bin rfl rfl bNeq) (rfl) (zm rfl (zm rfl (WPs.opF rfl rfl rfl (o_bin rfl rfl bNeq) (rfl) (zp rfl (zq rfl (zm rfl (zm rfl (zo rfl (o_un rfl rfl) (zm rfl (zx rfl (zx rfl (zx rfl (zx rfl (zx rfl (zx rfl ?_)))))))))))))))))))))))
   refine zp rfl (zp rfl (zm rfl (zm rfl (WPs.opF rfl rfl rfl (o_bin rfl rfl bNeq) (rfl) (zp rfl (zm rfl (zm rfl (WPs.opF rfl rfl rfl (o_bin rfl rfl bNeq) (rfl) (zp rfl (zm rfl (zm rfl (WPs.opF rfl rfl rfl (o_bin rfl rfl bNeq) (rfl) (zp rfl (zv (zj rfl (WP.skip ?_))))))))))))))))
   exact errs_tail hT e2 hd s hX ⟨rfl, rfl, rfl, rfl, trivial⟩ (fun E' h' hl => ⟨trivial, _, res1 hl, rfl⟩)
  ·skip
   obtain ⟨rfl, _⟩ := k1 (by omega) (by omega)
   obtain ⟨h3, _⟩ := k3 (by omega) (by omega)
   subst h3
   refine WPs.opF rfl rfl rfl (o_bin rfl rfl bGeq) (by simp; omega) ?_
   refine zp rfl (za rfl (zv (zw (zg rfl (zm rfl (zm rfl (zx rfl (zx rfl (zx rfl (zx rfl (zx rfl (zx rfl (zp rfl (zm rfl (zm rfl (zo rfl (o_un rfl rfl) (zm rfl (zm rfl (WPs.opF rfl rfl rfl (o_bin rfl rfl bNeq) (rfl) (zm rfl (zm rfl (WPs.opF rfl rfl rfl (o_bin rfl rfl bNeq) (rfl) (zp rfl ?_)))))))))))))))))))))))
   refine zq rfl (zp rfl (zm rfl (zm rfl (WPs.opF rfl rfl rfl (o_bin rfl rfl bNeq) (rfl) (zp rfl (zm rfl (zm rfl (WPs.opF rfl rfl rfl (o_bin rfl rfl bNeq) (rfl) (zp rfl (zm rfl (zm rfl (WPs.opF rfl rfl rfl (o_bin rfl rfl bNeq) (rfl) (zp rfl (zv (zj rfl (WP.skip ?_))))))))))))))))
   exact errs_tail hT e2 hd s hX ⟨rfl, rfl, rfl, rfl, trivial⟩ (fun E' h' hl => ⟨trivial, _, res1 hl, rfl⟩)
end
end Go.Proofs.YtconhghphklfjaaGreat.Am
