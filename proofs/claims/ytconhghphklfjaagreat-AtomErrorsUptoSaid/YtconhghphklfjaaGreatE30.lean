/- A group that is over or open, pages that are none and records that may not be are refused, and a record that was done is read back; the conditions are those of the given statement, for arguments that a machine can hold. Part 30 of 44. -/
import Derived.Test.YtconhghphklfjaaGreatE29
namespace Go.Proofs.YtconhghphklfjaaGreat.Am
open Go
def Dk.forceF (δ : Dk) : Int × Dk := if δ.dead = true then (9, δ) else if δ.fuse = 0 then (9, δ.die) else (0, { δ.cnt with certain := δ.log.length })
def Dk.writeF (δ : Dk) (n : Int) (b : List Nat) : Int × Dk := if δ.dead = true then (9, δ) else if ¬(0 ≤ n ∧ n < δ.pages.length ∧ b.length = 512) then (1, δ) else
 if δ.fuse = 0 then (9, { δ.die with torn := some (n.toNat, b) }) else (0, δ.wr n b)
def Dk.appendF (δ : Dk) (b : List Nat) : Int × Dk := if δ.dead = true then (9, δ) else if δ.room < δ.log.length + b.length then (7, δ) else if δ.fuse = 0 then (9, { δ.die with tail := b }) else (0, { δ.cnt with log := δ.log ++ b })
def Dk.readE (δ : Dk) (n : Int) : Int := if δ.dead = true then 9 else if ¬(0 ≤ n ∧ n < δ.pages.length) then 1 else 0
structure Dk.Ok (δ : Dk) : Prop where
 fuse : δ.fuse < 4294967296
 len : δ.log.length ≤ 16777216
 room : δ.room ≤ 16777216
 now : ∀ e ∈ δ.now, e.2.length = 512
 pages : ∀ (i : Nat) (b : List Nat), δ.pages[i]? = some (some b) → b.length = 512
 certain : δ.certain ≤ δ.log.length
 many : δ.pages.length ≤ 65536
theorem Dk.Ok.cnt {δ : Dk} (h : δ.Ok) : δ.cnt.Ok := ⟨by have := h.fuse; simp only [Dk.cnt]; split <;> omega, h.len, h.room, h.now, h.pages, h.certain, h.many⟩
theorem Dk.Ok.die {δ : Dk} (h : δ.Ok) : δ.die.Ok := ⟨h.fuse, h.len, h.room, h.now, h.pages, h.certain, h.many⟩
theorem Dk.Ok.forceF {δ : Dk} (h : δ.Ok) : δ.forceF.2.Ok := by
 unfold Dk.forceF
 split
 ·exact h
 ·split
  ·exact h.die
  ·exact ⟨h.cnt.fuse, h.len, h.room, h.now, h.pages, Nat.le_refl _, h.many⟩
theorem lookL_mem {α : Type} {n : Int} {x : α} : ∀ {l : List (Int × α)}, lookL n l = some x → (n, x) ∈ l := by
 intro l
 induction l with
 | nil => intro h; cases h
 | cons e l ih =>
  intro h
  simp only [lookL] at h
  by_cases he : e.1 = n
  ·rw [if_pos he] at h
   have := Option.some.inj h
   obtain ⟨a, b⟩ := e
   simp only at he this
   subst he; subst this
   exact List.mem_cons_self
  ·rw [if_neg he] at h; exact List.mem_cons_of_mem _ (ih h)
theorem Dk.Ok.at {δ : Dk} (hδ : δ.Ok) (n : Int) : (δ.at n).length = 512 := by
 unfold Dk.at
 cases h1 : lookL n δ.now with
 | some b => exact hδ.now _ (lookL_mem h1)
 | none =>
  cases h2 : δ.pages[n.toNat]? with
  | none => exact List.length_replicate
  | some o =>
   cases o with
   | none => exact List.length_replicate
   | some b => exact hδ.pages _ _ h2
section
variable {told : Nat → Option (List V → H → Option (V × H))} {h : H} {S : List Assn} {X : Assn} {k q p : Nat} {v x : V} {l b : List Nat} {μ : Lg} {δ : Dk}
theorem dWriteF (hT : W told) {n : Int} (s : Sat h (isDk p δ :: X :: S)) (hX : Ent X (rdB x b)) (hb : b.length < 1073741824) (hf : δ.fuse < 4294967296) (hw : δ.waiting.length ≤ 268435456) :
  Call ⟨Tryz.prog, told⟩ 108 [.ptr p 0, .int .i64 n, x] h fun v h' => v = .int .i64 (δ.writeF n b).1 ∧ Sat h' (isDk p (δ.writeF n b).2 :: X :: S) := by
 refine (dWrite_ct hT s hX hb hf hw).mono fun v h' hr => ?_
 unfold Dk.writeF
 rcases hr with ⟨hd, rfl, s⟩ | ⟨hd, h0, rfl, s⟩ | ⟨hd, h1, h2, h3, h0, rfl, s⟩ | ⟨hd, h1, h2, h3, h0, rfl, s⟩
 ·rw [if_pos hd]; exact ⟨rfl, s⟩
 ·rw [if_neg (by rw [hd]; decide), if_pos h0]; exact ⟨rfl, s⟩
 ·rw [if_neg (by rw [hd]; decide), if_neg (by simp [h1, h2, h3]), if_pos h0]; exact ⟨rfl, s⟩
 ·rw [if_neg (by rw [hd]; decide), if_neg (by simp [h1, h2, h3]), if_neg h0]; exact ⟨rfl, s⟩
theorem dReadF (hT : W told) {n : Int} (s : Sat h (isDk p δ :: S)) (hδ : δ.Ok) : Call ⟨Tryz.prog, told⟩ 96 [.ptr p 0, .int .i64 n] h fun v h' =>
  (δ.readE n ≠ 0 ∧ v = .tup [.sl0, .int .i64 (δ.readE n)] ∧ Sat h' (isDk p δ :: S)) ∨ (δ.readE n = 0 ∧ ∃ u, v = .tup [u, .int .i64 0] ∧ Sat h' (bufA u (δ.at n) :: isDk p δ :: S)) := by
 refine (dread_ct hT s (hδ.at n)).mono fun v h' hr => ?_
 unfold Dk.readE
 rcases hr with ⟨hd, rfl, s⟩ | ⟨hd, h0, rfl, s⟩ | ⟨hd, h1, h2, u, rfl, s⟩
 ·rw [if_pos hd]; exact .inl ⟨by decide, rfl, s⟩
 ·rw [if_neg (by rw [hd]; decide), if_pos h0]; exact .inl ⟨by decide, rfl, s⟩
 ·rw [if_neg (by rw [hd]; decide), if_neg (by simp [h1, h2])]; exact .inr ⟨rfl, u, rfl, s⟩
end
abbrev LD := Lg × Dk
def forceLD (x : LD) (n : Nat) : Int × LD := if n < x.1.base + x.1.forced then (0, x) else if x.2.forceF.1 ≠ 0 then (x.2.forceF.1, (x.1, x.2.forceF.2)) else (0, ({ x.1 with forced := x.1.b.length }, x.2.forceF.2))
def nextRec (μ : Lg) (kd : Int) (tx pv nx : Nat) (data : List Nat) (chs : List Chg) : List Nat := recG (μ.base + μ.b.length) (bodyG kd tx pv nx data chs)
def appendLD (x : LD) (kd : Int) (tx pv nx : Nat) (data : List Nat) (chs : List Chg) : (Nat × Int) × LD :=
 if goodR kd chs = false then ((0, 1), x) else if 1048576 < (bodyG kd tx pv nx data chs).length then ((0, 2), x) else
 if (x.2.appendF (nextRec x.1 kd tx pv nx data chs)).1 ≠ 0 then ((0, (x.2.appendF (nextRec x.1 kd tx pv nx data chs)).1), (x.1, (x.2.appendF (nextRec x.1 kd tx pv nx data chs)).2)) else
 ((x.1.base + x.1.b.length, 0), (x.1.app (nextRec x.1 kd tx pv nx data chs), (x.2.appendF (nextRec x.1 kd tx pv nx data chs)).2))
theorem forceF_wait {δ : Dk} : δ.forceF.2.waiting = δ.waiting := by
 unfold Dk.forceF
 split
 ·rfl
 ·split <;> rfl
theorem forceLD_wait {x : LD} {n : Nat} : (forceLD x n).2.2.waiting = x.2.waiting := by
 unfold forceLD
 split
 ·rfl
 ·split <;> exact forceF_wait
theorem Dk.Ok.writeF {δ : Dk} {n : Int} {b : List Nat} (h : δ.Ok) : (δ.writeF n b).2.Ok := by
 unfold Dk.writeF
 split
 ·exact h
 ·split
  ·exact h
  ·rename_i hn
   split
   ·exact ⟨h.fuse, h.len, h.room, h.now, h.pages, h.certain, h.many⟩
   ·refine ⟨h.cnt.fuse, h.len, h.room, fun e he => ?_, h.pages, h.certain, h.many⟩
    have hb : b.length = 512 := by
     by_cases q : 0 ≤ n ∧ n < δ.pages.length ∧ b.length = 512
     ·exact q.2.2
     ·exact absurd q hn
    have : ∀ l : List (Int × List Nat), (∀ e ∈ l, e.2.length = 512) → ∀ e ∈ putL n b l, e.2.length = 512 := by
     intro l
     induction l with
     | nil => intro _ e he; simp [putL] at he; subst he; exact hb
     | cons x l ih =>
      intro hl e he
      simp only [putL] at he
      split at he
      ·rcases List.mem_cons.1 he with rfl | he
       ·exact hb
       ·exact hl e (List.mem_cons_of_mem _ he)
      ·rcases List.mem_cons.1 he with rfl | he
       ·exact hl _ List.mem_cons_self
       ·exact ih (fun e he => hl e (List.mem_cons_of_mem _ he)) e he
    exact this δ.now h.now e he
theorem forceLD_ok {x : LD} {n : Nat} (h : x.2.Ok) : (forceLD x n).2.2.Ok := by
 unfold forceLD
 split
 ·exact h
 ·split
  ·exact h.forceF
  ·exact h.forceF
theorem Lg.Ok.forced' {μ : Lg} (h : μ.Ok) : ({ μ with forced := μ.b.length } : Lg).Ok := ⟨h.size, h.many, h.low, h.rise, Nat.le_refl _, h.len, h.check⟩
theorem forceLD_okL {x : LD} {n : Nat} (h : x.1.Ok) : (forceLD x n).2.1.Ok := by
 unfold forceLD
 split
 ·exact h
 ·split
  ·exact h
  ·exact h.forced'
section
variable {told : Nat → Option (List V → H → Option (V × H))} {h : H} {S : List Assn} {X : Assn} {k q p : Nat} {v x : V} {l b : List Nat} {μ : Lg} {δ : Dk}
theorem lForceF (hT : W told) {n : Nat} (s : Sat h (isLg q p μ :: isDk p δ :: S)) (hμ : μ.Ok) (hf : δ.fuse < 4294967296) : Call ⟨Tryz.prog, told⟩ 68 [.ptr q 0, .int .u64 (n : Int)] h fun v h' =>
  v = .int .i64 (forceLD (μ, δ) n).1 ∧ Sat h' (isLg q p (forceLD (μ, δ) n).2.1 :: isDk p (forceLD (μ, δ) n).2.2 :: S) := by
 refine (lForce_ct hT s hμ hf).mono fun v h' hr => ?_
 unfold forceLD Dk.forceF
 rcases hr with ⟨hn, rfl, s⟩ | ⟨hn, hd, rfl, s⟩ | ⟨hn, hd, h0, rfl, s⟩ | ⟨hn, hd, h0, rfl, s⟩
 ·rw [if_pos hn]; exact ⟨rfl, s⟩
 ·simp only [if_neg (Nat.not_lt.2 hn), if_pos hd, ne_eq, if_pos (by decide : ¬ ((9 : Int) = 0))]; exact ⟨trivial, s⟩
 ·simp only [if_neg (Nat.not_lt.2 hn), if_neg (by rw [hd]; decide : ¬ δ.dead = true), if_pos h0, ne_eq, if_pos (by decide : ¬ ((9 : Int) = 0))]; exact ⟨trivial, s⟩
 ·simp only [if_neg (Nat.not_lt.2 hn), if_neg (by rw [hd]; decide : ¬ δ.dead = true), if_neg h0, ne_eq, not_true, if_false]; exact ⟨trivial, s⟩
theorem lAppendF (hT : W told) {kd : Int} {tx pv nx : Nat} {dt ch : V} {cs : List V} {data : List Nat} {chs : List Chg} (s : Sat h (isLg q p μ :: isDk p δ :: X :: .arr 4 ch cs :: chgA cs chs :: S)) (hX : Ent X (rdB dt data)) (hfit : RecFit tx pv nx data chs) (hμ : μ.Ok) (hδ : δ.Ok) :
  Call ⟨Tryz.prog, told⟩ 48 [.ptr q 0, .agg (rcC kd tx pv nx dt ch)] h fun r h' =>
  r = .tup [.int .u64 ((appendLD (μ, δ) kd tx pv nx data chs).1.1 : Nat), .int .i64 (appendLD (μ, δ) kd tx pv nx data chs).1.2] ∧
  Sat h' (isLg q p (appendLD (μ, δ) kd tx pv nx data chs).2.1 :: isDk p (appendLD (μ, δ) kd tx pv nx data chs).2.2 :: X :: .arr 4 ch cs :: chgA cs chs :: S) := by
 refine (lAppend_ct hT s hX hfit hμ hδ.fuse hδ.len hδ.room).mono fun v h' hr => ?_
 unfold appendLD Dk.appendF nextRec
 rcases hr with ⟨e, rfl, (⟨hg, rfl⟩ | ⟨hg, hb, rfl⟩ | ⟨hg, hb, hd, rfl⟩ | ⟨hg, hb, hd, hfull, rfl⟩), s⟩ | ⟨hg, hb, hd, hfits, h0, rfl, s⟩ | ⟨hg, hb, hd, hfits, h0, rfl, s⟩
 ·rw [if_pos hg]; exact ⟨rfl, s⟩
 ·rw [if_neg (by rw [hg]; decide), if_pos hb]; exact ⟨rfl, s⟩
 ·simp only [if_neg (by rw [hg]; decide : ¬ goodR kd chs = false), if_neg (Nat.not_lt.2 hb), if_pos hd, ne_eq, if_pos (by decide : ¬ ((9 : Int) = 0))]; exact ⟨rfl, s⟩
 ·simp only [if_neg (by rw [hg]; decide : ¬ goodR kd chs = false), if_neg (Nat.not_lt.2 hb), if_neg (by rw [hd]; decide : ¬ δ.dead = true), if_pos hfull, ne_eq, if_pos (by decide : ¬ ((7 : Int) = 0))]; exact ⟨rfl, s⟩
 ·simp only [if_neg (by rw [hg]; decide : ¬ goodR kd chs = false), if_neg (Nat.not_lt.2 hb), if_neg (by rw [hd]; decide : ¬ δ.dead = true), if_neg (Nat.not_lt.2 hfits), if_pos h0, ne_eq, if_pos (by decide : ¬ ((9 : Int) = 0))]; exact ⟨rfl, s⟩
 ·simp only [if_neg (by rw [hg]; decide : ¬ goodR kd chs = false), if_neg (Nat.not_lt.2 hb), if_neg (by rw [hd]; decide : ¬ δ.dead = true), if_neg (Nat.not_lt.2 hfits), if_neg h0, ne_eq, not_true, if_false]; exact ⟨trivial, s⟩
end
end Go.Proofs.YtconhghphklfjaaGreat.Am
namespace Go.Proofs.YtconhghphklfjaaGreat.Am
open Go
structure Fm where
 page : Int
 b : List Nat
 pins : Int
 touch : Bool
 changed : Bool
structure Pl where
 frames : List Fm
 wher : List (Int × Int)
 dirty : List (Int × (Nat × Bool))
 hand : Nat
def fmC (f : Fm) (v : V) : List V := [.int .i64 f.page, v, .int .i64 f.pins, .bool f.touch, .bool f.changed]
def fmA : List V → List Fm → Assn
 | [], [] => .pu True
 | a :: v :: c :: d :: e :: l, x :: m => .an (.an (.pu (a = .int .i64 x.page ∧ c = .int .i64 x.pins ∧ d = .bool x.touch ∧ e = .bool x.changed)) (.rob v x.b)) (fmA l m)
 | _, _ => .pu False
theorem Pers.fm : ∀ (m : List Fm) (l : List V), Pers (fmA l m) := by
 intro m
 induction m with
 | nil => intro l; rcases l with _ | ⟨a, _ | ⟨b, _ | ⟨c, _ | ⟨d, _ | ⟨e, l⟩⟩⟩⟩⟩ <;> exact Pers.pu _
 | cons x m ih => intro l; rcases l with _ | ⟨a, _ | ⟨b, _ | ⟨c, _ | ⟨d, _ | ⟨e, l⟩⟩⟩⟩⟩ <;> first | exact Pers.pu _ | exact Pers.an (Pers.an (Pers.pu _) (Pers.rob _ _)) (ih l)
theorem fmA_split {a b : PM} : ∀ {m : List Fm} {l : List V} {i : Nat} {f : Fm}, (fmA l m).p a b → m[i]? = some f → ∃ pre v post, l = pre ++ (fmC f v ++ post) ∧ pre.length = i * 5 ∧ (Assn.rob v f.b).p a b ∧
  (∀ (f' : Fm) (v' : V) (a' b' : PM), (Assn.rob v' f'.b).p a' b' → PM.le a a' → PM.le b b' → (fmA (pre ++ (fmC f' v' ++ post)) (m.set i f')).p a' b') := by
 intro m
 induction m with
 | nil => intro l i f h hc; simp at hc
 | cons x m ih =>
  intro l i f h hc
  rcases l with _ | ⟨p, _ | ⟨q, _ | ⟨w, _ | ⟨d, _ | ⟨e, l⟩⟩⟩⟩⟩ <;> first | exact h.elim | skip
  obtain ⟨⟨⟨h1, h2, h3, h4⟩, h5⟩, h6⟩ := h
  cases i with
  | zero =>
   simp at hc
   subst hc
   refine ⟨[], q, l, ?_, rfl, h5, fun f' v' a' b' hv ha hb => ⟨⟨⟨rfl, rfl, rfl, rfl⟩, hv⟩, (fmA l m).mono _ _ _ _ ha hb h6⟩⟩
   rw [h1, h2, h3, h4]; rfl
  | succ i =>
   simp at hc
   obtain ⟨pre, v, post, e1, e2, e3, e4⟩ := ih h6 hc
   refine ⟨p :: q :: w :: d :: e :: pre, v, post, ?_, ?_, e3, fun f' v' a' b' hv ha hb => ⟨⟨⟨h1, h2, h3, h4⟩, Assn.mono _ _ _ _ _ ha hb h5⟩, e4 f' v' a' b' hv ha hb⟩⟩
   ·rw [e1]; rfl
   ·simp only [List.length_cons, e2]; omega
theorem fmA_len {a b : PM} : ∀ {m : List Fm} {l : List V}, (fmA l m).p a b → l.length = m.length * 5 := by
 intro m
 induction m with
 | nil => intro l h; rcases l with _ | ⟨a, _ | ⟨b, _ | ⟨c, _ | ⟨d, _ | ⟨e, l⟩⟩⟩⟩⟩ <;> first | rfl | exact h.elim
 | cons x m ih =>
  intro l h
  rcases l with _ | ⟨a, _ | ⟨b, _ | ⟨c, _ | ⟨d, _ | ⟨e, l⟩⟩⟩⟩⟩ <;> first | exact h.elim | skip
  have := ih h.2
  simp only [List.length_cons]
  omega
def framesA (fid : Nat) (m : List Fm) : Assn := xs fun cs : List V => star [pt fid (.cells (m.length * 5) cs false), fmA cs m]
abbrev whA (v : V) (m : List (Int × Int)) : Assn := mapV (fun v x => .pu (v = .int .i64 x)) v m
abbrev diA (v : V) (m : List (Int × (Nat × Bool))) : Assn := mapV (fun v x => .pu (v = .agg [.int .u64 (x.1 : Int), .bool x.2])) v m
def plC (p q fid n : Nat) (wh di : V) (hand : Nat) : List V := [.ptr p 0, .ptr q 0, .sl fid 0 n (.exact n), wh, di, .int .i64 (hand : Int)]
def isPl (r p q : Nat) (π : Pl) : Assn := xs fun fid : Nat => xs fun wh : V => xs fun di : V =>
 star [pt r (.cells 6 (plC p q fid π.frames.length wh di π.hand) false), framesA fid π.frames, whA wh π.wher, diA di π.dirty]
section
variable {P : Program} {h : H} {S : List Assn} {X : Assn} {r q p fid : Nat} {v : V} {π : Pl} {m : List Fm}
theorem isPl_iff : Sat h (isPl r p q π :: S) ↔ ∃ fid wh di, Sat h (pt r (.cells 6 (plC p q fid π.frames.length wh di π.hand) false) :: framesA fid π.frames :: whA wh π.wher :: diA di π.dirty :: S) := by
 simp only [isPl, Sat_xs, Sat_star, List.cons_append, List.nil_append]
theorem framesA_iff : Sat h (framesA fid m :: S) ↔ ∃ cs, Sat h (pt fid (.cells (m.length * 5) cs false) :: fmA cs m :: S) := by
 simp only [framesA, Sat_xs, Sat_star, List.cons_append, List.nil_append]
theorem frame_open {i : Nat} {f : Fm} (s : Sat h (framesA fid m :: S)) (hf : m[i]? = some f) : ∃ pre v post, pre.length = i * 5 ∧ (pre ++ (fmC f v ++ post)).length = m.length * 5 ∧
  Sat h (pt fid (.cells (m.length * 5) (pre ++ (fmC f v ++ post)) false) :: fmA (pre ++ (fmC f v ++ post)) m :: .rob v f.b :: S) := by
 obtain ⟨cs, s⟩ := framesA_iff.1 s
 obtain ⟨a, b, q1, q2, q3⟩ := s.at (k := 1) rfl
 obtain ⟨pre, v, post, e1, e2, e3, _⟩ := fmA_split q3 hf
 have hl := fmA_len q3
 subst e1
 refine ⟨pre, v, post, e2, hl, ?_⟩
 have s1 : Sat h (fmA (pre ++ (fmC f v ++ post)) m :: pt fid (.cells (m.length * 5) (pre ++ (fmC f v ++ post)) false) :: S) := s.bringS [1]
 have s2 := (s1.dup (Pers.fm _ _)).ent (B := .rob v f.b) fun a' b' h' => by
  obtain ⟨pre', v', post', e1', e2', e3', _⟩ := fmA_split h' hf
  have := List.append_inj e1' (by omega)
  obtain ⟨_, h5⟩ := this
  have h6 := congrArg (fun l => l[1]?) h5
  simp [fmC] at h6
  subst h6
  exact e3'
 exact s2.bringS [2, 1, 0]
theorem frame_close {i : Nat} {f f' : Fm} {v' : V} {pre post : List V} {n : Nat} (s : Sat h (pt fid (.cells n (pre ++ (fmC f' v' ++ post)) false) :: fmA (pre ++ (fmC f v ++ post)) m :: .rob v' f'.b :: S)) (hn : n = m.length * 5) (hf : m[i]? = some f) (hp : pre.length = i * 5) : Sat h (framesA fid (m.set i f') :: S) := by
 subst hn
 have s1 : Sat h (fmA (pre ++ (fmC f v ++ post)) m :: .rob v' f'.b :: pt fid (.cells (m.length * 5) (pre ++ (fmC f' v' ++ post)) false) :: S) := s.bringS [1, 1, 0]
 have s2 := s1.two (C := fmA (pre ++ (fmC f' v' ++ post)) (m.set i f')) (Pers.fm _ _) (Pers.rob _ _) fun a b h1 h2 => by
  obtain ⟨pre', v0, post', e1', e2', e3', e4'⟩ := fmA_split h1 hf
  obtain ⟨h3, h4⟩ := List.append_inj e1' (by omega)
  subst h3
  have h5 : post = post' := by
   have := List.append_inj h4 (by simp [fmC])
   exact this.2
  subst h5
  exact e4' f' v' a b h2 (PM.le_refl _) (PM.le_refl _)
 refine framesA_iff.2 ⟨pre ++ (fmC f' v' ++ post), ?_⟩
 rw [List.length_set]
 exact s2.bringS [1]
theorem nth_mid {pre row post : List V} {a j : Nat} {x : V} (hp : pre.length = a) (hj : nth row j = some x) : nth (pre ++ (row ++ post)) (a + j) = some x := by
 rw [nth_eq] at hj ⊢
 have hjl := (List.getElem?_eq_some_iff.1 hj).1
 rw [List.getElem?_append_right (by omega), show a + j - pre.length = j by omega, List.getElem?_append_left hjl, hj]
theorem set_mid {pre row post : List V} {a j : Nat} {x : V} (hp : pre.length = a) (hj : j < row.length) : (pre ++ (row ++ post)).set (a + j) x = pre ++ (row.set j x ++ post) := by
 rw [List.set_append_right _ _ (by omega), show a + j - pre.length = j by omega, List.set_append_left _ _ hj]
theorem Sat.stM {t : TypeId} {k id n a j : Nat} {pre row post : List V} {x : V} (s : Sat h S) (hk : getA S k = some (pt id (.cells n (pre ++ (row ++ post)) false))) (hs : sizeT P t = some 1) (hp : pre.length = a) (hl : (pre ++ (row ++ post)).length = n) (hj : j < row.length) (hv : x.cells = [x]) (hst : storable x = true) :
  ∃ h₁, storeV P h t (.ptr id (a + j)) x = some h₁ ∧ Sat h₁ (setA S k (pt id (.cells n (pre ++ (row.set j x ++ post)) false))) := by
 have := s.st1 (P := P) (t := t) (off := a + j) (v := x) hk hs hl (by rw [← hl]; simp; omega) hv hst
 rwa [set_mid hp hj] at this
theorem Sat.stF {t : TypeId} {k id n a : Nat} {pre row row' post : List V} (s : Sat h S) (hk : getA S k = some (pt id (.cells n (pre ++ (row ++ post)) false))) (hs : sizeT P t = some row'.length) (hp : pre.length = a) (hl : (pre ++ (row ++ post)).length = n) (hr : row'.length = row.length) (hst : row'.all storable = true) :
  ∃ h₁, storeV P h t (.ptr id a) (.agg row') = some h₁ ∧ Sat h₁ (setA S k (pt id (.cells n (pre ++ (row' ++ post)) false))) := by
 have := s.stN (P := P) (t := t) (off := a) (l := row') hk hs hl (by rw [← hl]; simp; omega) hst
 have e : (pre ++ (row ++ post)).take a ++ (row' ++ (pre ++ (row ++ post)).drop (a + row'.length)) = pre ++ (row' ++ post) := by
  rw [List.take_left' hp, List.drop_append, List.drop_eq_nil_of_le (by omega), List.nil_append, show a + row'.length - pre.length = row.length by omega, List.drop_left' rfl]
 rwa [e] at this
theorem ldF {t : TypeId} {k id n a : Nat} {pre row post : List V} (s : Sat h S) (hk : getA S k = some (pt id (.cells n (pre ++ (row ++ post)) false))) (ht : isAggT P t = some true) (hs : sizeT P t = some row.length) (hp : pre.length = a) (hl : (pre ++ (row ++ post)).length = n) : loadV P h t (.ptr id a) = some (.agg row) := by
 rw [ldN ht hs (s.row hk) hl (by rw [← hl]; simp; omega), List.drop_left' hp, List.take_left' rfl]
end
abbrev Eng := Pl × LD
def dirtRec (π : Pl) (n : Int) : Nat := match lookL n π.dirty with
 | some x => x.1
 | none => 0
def outF (ε : Eng) (i : Nat) : Int × Eng := match ε.1.frames[i]? with
 | none => (0, ε)
 | some f => if f.page < 0 ∨ f.changed = false then (0, ε) else if goodL f.b = false then (4, ε) else
  if (forceLD ε.2 (atL f.b 4 8)).1 ≠ 0 then ((forceLD ε.2 (atL f.b 4 8)).1, (ε.1, (forceLD ε.2 (atL f.b 4 8)).2)) else
  if ((forceLD ε.2 (atL f.b 4 8)).2.2.writeF f.page f.b).1 ≠ 0 then (((forceLD ε.2 (atL f.b 4 8)).2.2.writeF f.page f.b).1, (ε.1, ((forceLD ε.2 (atL f.b 4 8)).2.1, ((forceLD ε.2 (atL f.b 4 8)).2.2.writeF f.page f.b).2))) else
  (0, ({ ε.1 with frames := ε.1.frames.set i { f with changed := false }, dirty := putL f.page (dirtRec ε.1 f.page, false) ε.1.dirty }, ((forceLD ε.2 (atL f.b 4 8)).2.1, ((forceLD ε.2 (atL f.b 4 8)).2.2.writeF f.page f.b).2)))
section
variable {told : Nat → Option (List V → H → Option (V × H))} {h : H} {S : List Assn} {X : Assn} {r k q p fid : Nat} {v x wh di : V} {l b : List Nat} {π : Pl} {μ : Lg} {δ : Dk}
theorem out_ct (hT : W told) {i : Nat} {f : Fm} (s : Sat h (pt r (.cells 6 (plC p q fid π.frames.length wh di π.hand) false) :: framesA fid π.frames :: whA wh π.wher :: diA di π.dirty :: isLg q p μ :: isDk p δ :: S)) (hi : π.frames[i]? = some f) (hμ : μ.Ok) (hδ : δ.Ok) (hfl : f.b.length < 1073741824) (hw : δ.waiting.length ≤ 268435456) :
  Call ⟨Tryz.prog, told⟩ 95 [.ptr r 0, .ptr fid (i * 5)] h fun v h' => v = .int .i64 (outF (π, μ, δ) i).1 ∧
   Sat h' (pt r (.cells 6 (plC p q fid (outF (π, μ, δ) i).2.1.frames.length wh di (outF (π, μ, δ) i).2.1.hand) false) :: framesA fid (outF (π, μ, δ) i).2.1.frames :: whA wh (outF (π, μ, δ) i).2.1.wher :: diA di (outF (π, μ, δ) i).2.1.dirty :: isLg q p (outF (π, μ, δ) i).2.2.1 :: isDk p (outF (π, μ, δ) i).2.2.2 :: S) := by
 have s00 := s
 obtain ⟨pre, fv, post, hpre, hlen, s⟩ := frame_open (s.bringS [1]) hi
 dsimp only [bringA, getA, delA] at s
 have hfv := (s.viewX (k := 2) rfl (rd_ro _ _))
 refine Call.of_wp (hT.free _ rfl) Tryz.func95 rfl rfl (zg rfl (za rfl (zv (zw (zg rfl (zm rfl (zn rfl (zf rfl (fa167_0 _ _) (zl rfl (s.ld (k := 0) rfl ag3 (nth_mid hpre rfl)) ?_)))))))))
 refine WPs.opB rfl rfl rfl (o_bin rfl rfl bLss) ?_ ?_
 ·intro hq
  have hq : f.page < 0 := by simpa using hq
  have he : outF (π, μ, δ) i = (0, (π, μ, δ)) := by simp only [outF, hi]; rw [if_pos (.inl hq)]
  rw [he]
  refine zm rfl (zx rfl (zx rfl (zx rfl (zx rfl (zx rfl (zq rfl (zv (zi rfl (zg rfl (za rfl (zv ?_)))))))))))
  refine WP.ret ⟨trivial, _, rfl, ?_⟩
  exact ⟨rfl, s00⟩
 ·intro hq
  have hq : ¬ f.page < 0 := by simpa using hq
  refine zm rfl (zm rfl (zn rfl (zf rfl (fa167_4 _ _) (zl rfl (s.ld (k := 0) rfl ag4 (nth_mid hpre rfl)) ?_))))
  have hcc : f.changed = false ∨ f.changed = true := by cases f.changed <;> simp
  rcases hcc with hc | hc
  ·have he : outF (π, μ, δ) i = (0, (π, μ, δ)) := by simp only [outF, hi]; rw [if_pos (.inr hc)]
   rw [he]
   refine WPs.opT rfl rfl rfl (o_un rfl rfl) (by rw [hc]; rfl) ?_
   refine zp rfl (zv (zi rfl (zg rfl (za rfl (zv ?_)))))
   refine WP.ret ⟨trivial, _, rfl, ?_⟩
   exact ⟨rfl, s00⟩
  ·have he : outF (π, μ, δ) i = (if goodL f.b = false then (4, (π, μ, δ)) else
    if (forceLD (μ, δ) (atL f.b 4 8)).1 ≠ 0 then ((forceLD (μ, δ) (atL f.b 4 8)).1, (π, (forceLD (μ, δ) (atL f.b 4 8)).2)) else
    if ((forceLD (μ, δ) (atL f.b 4 8)).2.2.writeF f.page f.b).1 ≠ 0 then (((forceLD (μ, δ) (atL f.b 4 8)).2.2.writeF f.page f.b).1, (π, ((forceLD (μ, δ) (atL f.b 4 8)).2.1, ((forceLD (μ, δ) (atL f.b 4 8)).2.2.writeF f.page f.b).2))) else
    (0, ({ π with frames := π.frames.set i { f with changed := false }, dirty := putL f.page (dirtRec π f.page, false) π.dirty }, ((forceLD (μ, δ) (atL f.b 4 8)).2.1, ((forceLD (μ, δ) (atL f.b 4 8)).2.2.writeF f.page f.b).2)))) := by
    simp only [outF, hi]; rw [if_neg (by rw [hc]; simp; omega)]
   rw [he]
   refine WPs.opF rfl rfl rfl (o_un rfl rfl) (by rw [hc]; rfl) ?_
   refine zp rfl (zv (zj rfl (WP.skip (zg rfl (zm rfl (zn rfl (zf rfl (fa167_1 _ _) (zl rfl (s.ld (k := 0) rfl ag32 (nth_mid hpre rfl)) (WPs.call rfl rfl rfl rfl rfl rfl rfl (head_ct hT (s.bringS [2]) (rd_ro _ _) (by omega)) ?_)))))))))
   rintro w h ⟨s, (⟨hg, rfl⟩ | ⟨hg, rfl⟩)⟩
   ·dsimp only [bringA, getA, delA] at s
    rw [if_neg (by rw [hg]; decide)]
    have hxok : (forceLD (μ, δ) (atL f.b 4 8)).2.2.Ok := forceLD_ok hδ
    have hxw : (forceLD (μ, δ) (atL f.b 4 8)).2.2.waiting.length ≤ 268435456 := by rw [forceLD_wait]; exact hw
    have hcall := lForceF (n := atL f.b 4 8) hT (s.bringS [6, 6]) hμ hδ.fuse
    generalize forceLD (μ, δ) (atL f.b 4 8) = x at hcall hxok hxw ⊢
    obtain ⟨xe, xl, xd⟩ := x
    dsimp only at hcall hxok hxw ⊢
    refine zm rfl (ze rfl (ze rfl (ze rfl (ze rfl (ze rfl (za rfl (za rfl (za rfl (za rfl (za rfl (zv (zw (zg rfl (zm rfl (WPs.opF rfl rfl rfl (o_bin rfl rfl bNeq) (rfl) (zv (zj rfl (WP.skip (zw (zg rfl (zm rfl (zn rfl ?_))))))))))))))))))))))
    refine zf rfl (fa140_1 _ _) (zl rfl (by exact s.ld (k := 3) rfl ag44 rfl) ?_)
    refine zm rfl (WPs.call rfl rfl rfl rfl rfl rfl rfl (hcall) ?_)
    rintro w h ⟨rfl, s⟩
    dsimp only [bringA, getA, delA] at s
    refine za rfl (zv (zg rfl (zm rfl ?_)))
    by_cases hx : xe = 0
    ·subst hx
     rw [if_neg (by decide)]
     refine WPs.opF rfl rfl rfl (o_bin rfl rfl bNeq) (rfl) ?_
     have hwr := fun (s : Sat h (isDk p xd :: .rob fv f.b :: isLg q p xl :: pt fid (.cells (π.frames.length * 5) (pre ++ (fmC f fv ++ post)) false) :: fmA (pre ++ (fmC f fv ++ post)) π.frames :: pt r (.cells 6 (plC p q fid π.frames.length wh di π.hand) false) :: whA wh π.wher :: diA di π.dirty :: S)) => dWriteF (n := f.page) hT s (rd_ro fv f.b) hfl hxok.fuse hxw
     generalize xd.writeF f.page f.b = y at hwr ⊢
     obtain ⟨ye, yd⟩ := y
     dsimp only at hwr ⊢
     have s := s.bringS [1, 1, 0]
     dsimp only [bringA, getA, delA] at s
     refine zv (zj rfl (WP.skip (zw (zw (WP.drawn [none, none, none, none, none, none, none, none, none, none, none, none, none, none] rfl (by kernel_rfl) (by kernel_rfl) ?_)))))
     refine zM rfl (zN rfl (zF rfl (fa140_0 _ _) (zL rfl (s.ld (k := 5) rfl ag23 rfl) (zM rfl (zN rfl (zF rfl (fa167_0 _ _) (zL rfl (s.ld (k := 3) rfl ag3 (nth_mid hpre rfl)) (zM rfl (zN rfl (zF rfl (fa167_1 _ _) (zL rfl (s.ld (k := 3) rfl ag32 (nth_mid hpre rfl)) (WPt.any rfl rfl rfl rfl (OpR.call rfl rfl rfl rfl (hwr s)) ?_))))))))))))
     rintro w h ⟨rfl, s⟩
     refine zA rfl ?_
     refine WPt.nil ⟨⟨trivial, trivial, trivial, trivial, trivial, trivial, trivial, trivial, trivial, trivial, trivial, trivial, trivial, trivial, trivial⟩, ?_⟩
     refine zg rfl (zm rfl ?_)
     by_cases hy : ye = 0
     ·subst hy
      rw [if_neg (by decide)]
      refine WPs.opF rfl rfl rfl (o_bin rfl rfl bNeq) (rfl) (zv (zj rfl (WP.skip (zg rfl (zm rfl (zn rfl (zf rfl (fa167_4 _ _) (WPs.stS rfl rfl rfl rfl rfl (s.stM (k := 3) (j := 4) rfl sz4 hpre hlen (by simp [fmC]) rfl rfl) ?_))))))))
      intro h s
      dsimp only [setA] at s
      have e5 : (fmC f fv).set 4 (.bool false) = fmC { f with changed := false } fv := rfl
      rw [e5] at s
      have s := s.bringS [7, 3, 4]
      dsimp only [bringA, getA, delA] at s
      refine zv (zw (WP.drawn [none, none, none, none, none, none, none, none, none, none, none, none, none, none, none, none, none, none, none, none] rfl (by kernel_rfl) (by kernel_rfl) ?_))
      refine zM rfl (zN rfl (zF rfl (fa140_4 _ _) (zL rfl (s.ld (k := 2) rfl ag138 rfl) (zM rfl (zN rfl (zF rfl (fa167_0 _ _) (zL rfl (s.ld (k := 1) rfl ag3 (nth_mid hpre rfl)) (zM rfl (zN rfl (zF rfl (fa140_4 _ _) (zL rfl (s.ld (k := 2) rfl ag138 rfl) (zM rfl (zN rfl (zF rfl (fa167_0 _ _) (zL rfl (s.ld (k := 1) rfl ag3 (nth_mid hpre rfl)) ?_)))))))))))))))
      have hlook : ∃ b, lookupX Tryz.prog h 138 di (.int .i64 f.page) false = some (.agg [.int .u64 (dirtRec π f.page : Nat), .bool b]) := by
       rcases mapV_look (f := fun v (x : Nat × Bool) => .pu (v = .agg [.int .u64 (x.1 : Int), .bool x.2])) (n := f.page) (fun _ _ => Pers.pu _) s Tryz.underlying138 Tryz.underlying3 zt143 with ⟨g1, _, g3⟩ | ⟨u, x, g1, _, g3, s'⟩
       ·exact ⟨false, by rw [g3]; simp only [dirtRec, g1]; rfl⟩
       ·obtain ⟨rfl, _⟩ := Sat_pu.1 s'
        exact ⟨x.2, by rw [g3]; simp only [dirtRec, g1]⟩
      obtain ⟨lb, hlook⟩ := hlook
      refine zO rfl (o_look rfl rfl hlook) (zO rfl (o_fld rfl (fv_of (fv143_0 _) rfl)) (zO rfl (o_build rfl (by rw [bv143]; rfl)) ?_))
      refine WPt.any0 rfl rfl rfl (OpR.mapUpdate rfl rfl rfl rfl (mapV_put (f := fun v (x : Nat × Bool) => .pu (v = .agg [.int .u64 (x.1 : Int), .bool x.2])) (x := (dirtRec π f.page, false)) (fun _ _ => Pers.pu _) (s.addPu rfl) Tryz.underlying138 Tryz.underlying3)) ?_
      intro w h s
      refine WPt.nil ⟨⟨trivial, trivial, trivial, trivial, trivial, trivial, trivial, trivial, trivial, trivial, trivial, trivial, trivial, trivial, trivial, trivial, trivial, trivial, trivial, trivial, trivial⟩, ?_⟩
      refine zg rfl (za rfl (zv ?_))
      refine WP.ret ⟨trivial, _, rfl, ?_⟩
      refine ⟨rfl, ?_⟩
      have s := frame_close (i := i) (f' := { f with changed := false }) (s.bringS [1, 5, 3]) rfl hi hpre
      dsimp only [bringA, getA, delA] at s
      have e6 : (π.frames.set i { f with changed := false }).length = π.frames.length := List.length_set
      rw [e6]
      exact s.bringS [2, 0, 3, 0, 1, 0]
     ·rw [if_pos hy]
      refine WPs.opT rfl rfl rfl (o_bin rfl rfl bNeq) (by simp; exact hy) ?_
      refine zv (zi rfl (zg rfl (zm rfl (za rfl (zv ?_)))))
      refine WP.ret ⟨trivial, _, rfl, ?_⟩
      refine ⟨rfl, ?_⟩
      have s := framesA_iff.2 ⟨_, s.bringS [3, 3]⟩
      dsimp only [bringA, getA, delA] at s
      exact (s.del 2).bringS [3, 0, 2, 2, 1, 0]
    ·rw [if_pos hx]
     refine WPs.opT rfl rfl rfl (o_bin rfl rfl bNeq) (by simp; exact hx) ?_
     refine zv (zi rfl (zg rfl (zm rfl (za rfl (zv ?_)))))
     refine WP.ret ⟨trivial, _, rfl, ?_⟩
     refine ⟨rfl, ?_⟩
     have s := framesA_iff.2 ⟨_, s.bringS [3, 3]⟩
     dsimp only [bringA, getA, delA] at s
     exact (s.del 3).bringS [3, 0, 2, 2, 0, 0]
   ·dsimp only [bringA, getA, delA] at s
    rw [if_pos hg]
    refine zm rfl (ze rfl (ze rfl (ze rfl (ze rfl (ze rfl (za rfl (za rfl (za rfl (za rfl (za rfl (zv (zw (zg rfl (zm rfl (WPs.opT rfl rfl rfl (o_bin rfl rfl bNeq) (rfl) (zv (zi rfl (zg rfl (zm rfl (za rfl (zv ?_)))))))))))))))))))))
    refine WP.ret ⟨trivial, _, rfl, ?_⟩
    refine ⟨rfl, ?_⟩
    have s := framesA_iff.2 ⟨_, s.bringS [1, 1]⟩
    dsimp only [bringA, getA, delA] at s
    exact (s.del 1).bringS [1, 0]
end
end Go.Proofs.YtconhghphklfjaaGreat.Am
